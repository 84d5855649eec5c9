/- Regions that ask for the order of their operations: whatever order is  -/
import Derived.Test.YtmabhhngoklncaaGreatDoorS
set_option maxRecDepth 100000
set_option maxHeartbeats 40000000
set_option linter.all false
open List renaming mem_cons_of_mem->rA,mem_cons_self->rD,mem_cons->rK
open Go.Instr renaming storeAt->rB,sureAddr->rJ
open Array renaming getElem?_setIfInBounds_ne->rC,getElem?_eq_none->rE,getElem?_eq_getElem->rG,getElem?_modify->rI
open Go.Sem renaming run_bind->rF,run_pure->rL
open Go.Result renaming andThen_ok->rH
open Go
namespace Go.AM
section
variable {P:Program} {ι ι':Inj} {m m':Mem} {w w':World} {ι0:Inj} {m0:Mem} {w0:World}
theorem Step.bump (h:Step P ι0 m0 w0 ι m w) {nx:Nat} (hn:m.next<=nx):Step P ι0 m0 w0 ι ⟨nx,m.t⟩ w:=
 ⟨h.le,⟨fun b hb=>h.rel.fresh b (by simp at hb;omega),h.rel.low,h.rel.blk,h.rel.apart⟩,h.size,h.old,h.wrs,h.os,h.tape,h.output,by have:=h.next;simp;omega,h.names,h.occs⟩
theorem Step.late (h:Step P ι0 m0 w0 ι m w) {b:Nat} {p:Pl} {o:Obj} (hb:ι b=none) (hlt:b<m.next) (hb0:m0.next<=b):Step P ι0 m0 w0 (ι.set b p) m {w with heap:=w.heap.push o}:=by
 have hle:=Inj.le_set (p:=p) hb;have hk:∀k,k<w.heap.size->(w.heap.push o)[k]? =w.heap[k]? :=fun k hk=>by rw[Array.getElem?_push,if_neg (by omega)]
 have hback:∀c x,m.t.find c c=some x->∀q,(ι.set b p) c=some q->ι c=some q:=fun c x hx q hq=>by
  obtain⟨q',h1,_⟩:=h.rel.blk c x hx;rw[hle _ _ h1] at hq;rw[h1,hq]
 refine⟨h.le.trans hle,⟨fun c hc=>?_,fun g hg=>let⟨q,h1,h2⟩:=h.rel.low g hg;⟨q,hle _ _ h1,h2⟩,fun c x hx=>?_,fun c d x y q r hx hy hq hr=>h.rel.apart c d x y q r hx hy (hback c x hx q hq) (hback d y hy r hr)⟩,?_,fun k h1 h2=>?_,?_,h.os,h.tape,h.output,h.next,fun c hc hn=>?_,?_⟩
 ·simp only[Inj.set]
  rw[if_neg (by omega)];exact h.rel.fresh c hc
 ·obtain⟨q,h1,h2⟩:=h.rel.blk c x hx
  exact⟨q,hle _ _ h1,(h2.mono hle).at (hk _ (zBB h2))⟩
 ·have:=h.size;simp;omega
 ·rw[<-h.old k h1 h2];exact hk k (by have:=h.size;omega)
 ·rintro k h1 ⟨c,x,q,hx,hw,hq,e⟩
  exact h.wrs k h1 ⟨c,x,q,hx,hw,hback c x hx q hq,e⟩
 ·simp only[Inj.set]
  rw[if_neg (by omega)];exact h.names c hc hn
 ·rintro k h1 ⟨c,x,q,hx,hq,e⟩
  exact h.occs k h1 ⟨c,x,q,hx,hback c x hx q hq,e⟩
theorem Step.lay (h:Step P ι0 m0 w0 ι m w) {t':T Blk} {b:Nat} {x:Blk} {p:Pl} (ht:t'.sub m.t b x) (hb:ι b=some p) (hx:xX P ι p x w) (hp:w0.heap.size<=p.blk) (hno:¬occ ι m p.blk):Step P ι0 m0 w0 ι ⟨m.next,t'⟩ w:=by
 refine⟨h.le,⟨h.rel.fresh,h.rel.low,fun c y hy=>?_,fun c d y z q r hy hz hq hr e hw=>?_⟩,h.size,h.old,?_,h.os,h.tape,h.output,h.next,h.names,?_⟩
 ·rcases ht c y hy with⟨rfl,rfl⟩|⟨_,hy'⟩
  ·exact⟨p,hb,hx⟩
  ·exact h.rel.blk c y hy'
 ·rcases ht c y hy with⟨rfl,rfl⟩|⟨hc,hy'⟩<;>rcases ht d z hz with⟨rfl,rfl⟩|⟨hd,hz'⟩
  ·rfl
  ·rw[hb] at hq;injection hq with hq;subst hq
   exact absurd ⟨d,z,r,hz',hr,e.symm⟩ hno
  ·rw[hb] at hr;injection hr with hr;subst hr
   exact absurd ⟨c,y,q,hy',hq,e⟩ hno
  ·exact h.rel.apart c d y z q r hy' hz' hq hr e hw
 ·rintro k hk ⟨c,y,q,hy,hw,hq,e⟩
  rcases ht c y hy with⟨rfl,rfl⟩|⟨hc,hy'⟩
  ·rw[hb] at hq;injection hq with hq;subst hq;omega
  ·exact h.wrs k hk ⟨c,y,q,hy',hw,hq,e⟩
 ·rintro k hk ⟨c,y,q,hy,hq,e⟩
  rcases ht c y hy with⟨rfl,rfl⟩|⟨hc,hy'⟩
  ·rw[hb] at hq;injection hq with hq;subst hq;omega
  ·exact h.occs k hk ⟨c,y,q,hy',hq,e⟩
theorem zAQ.ext {N:Nat} (h1:∀r o,w.heap[r]? =some (.deferred o)->¬occ ι m r->w'.heap[r]? =w.heap[r]?/\¬occ ι' m' r):∀ {ds:List Deferred},zAQ N ι m w ds->zAQ N ι' m' w' ds
 |[],_=>trivial
 |_::_,⟨⟨r,e,g2,g3,g4,g5⟩,g6⟩=>by
  obtain⟨k1,k2⟩:=h1 r _ g3 g4;exact⟨⟨r,e,g2,by rw[k1];exact g3,k2,g5⟩,g6.ext h1⟩
theorem zB3 {p:Pl} {x:Blk} {o:Option (List Deferred)} (h:xX P ι p x w):w.heap[p.blk]?≠some (.deferred o):=by
 intro e;cases x with
 |cells c t g z=>obtain⟨C,e',fz,L,h1,_⟩:=h;rw[e] at h1;cases h1
 |map es clock=>obtain⟨E,h1,_⟩:=h;rw[e] at h1;cases h1
 |iter mb since seen stepped=>obtain⟨_,m',h1,_⟩:=h;rw[e] at h1;cases h1
 |loop st pend fr mask fn params assign body=>obtain⟨_,_,L,h1,_⟩:=h;rw[e] at h1;cases h1
def Made (P:Program) (ι:Inj) (m:Mem) (w:World) (N:Nat) (p:Pend):Prop:=∃pl,ι p.b=some pl/\xX P ι pl p.x w/\N<=pl.blk/\¬occ ι m pl.blk
theorem Made.step {N:Nat} {p:Pend} (h:Made P ι m w N p) (hs:Step P ι m w ι' m' w'):Made P ι' m' w' N p:=by
 obtain⟨pl,h1,h2,h3,h4⟩:=h;have hlt:=zBB h2;exact⟨pl,hs.le _ _ h1,(h2.mono hs.le).at (hs.old _ hlt fun hw=>h4 (zPR hw)),h3,fun ho=>h4 (hs.occs _ hlt ho)⟩
theorem zDf {i:Nat}:∀ {l:List Nat},zA9 i l=true↔i∈l
 |[]=>by simp[zA9]
 |j::l=>by
  have e:zA9 i (j::l)=iteB (Nat.beq i j) true (zA9 i l):=rfl;rw[e,zV,rK];by_cases h:i=j
  ·simp[h]
  ·have hb:Nat.beq i j=false:=by cases h':Nat.beq i j with|false=>rfl|true=>exact absurd (Nat.eq_of_beq_eq_true h') h
   rw[hb];simp[h,zDf]
theorem zCs {ins:List Nat}:∀ {ps:List Pend} {m:Mem} {f:List Pend->Mem->R},zA4 ins ps m f=.ok->Step P ι0 m0 w0 ι m w->(∀p∈ps,zA9 p.i ins=true->Made P ι m w w0.heap.size p)->
  (∀p∈ps,∀q∈ps,p.i≠q.i->zA9 p.i ins=true->∀pl ql,ι p.b=some pl->ι q.b=some ql->pl.blk≠ql.blk)->(ps.map Pend.i).Nodup->
  ∃m',f (ps.filter fun p=>!zA9 p.i ins) m'=.ok/\m'.next=m.next/\Step P ι0 m0 w0 ι m' w/\∀k,occ ι m' k->occ ι m k∨∃p∈ps,zA9 p.i ins=true/\∃pl,ι p.b=some pl/\xX P ι pl p.x w/\pl.blk=k
 |[],m,f,h,hs,_,_,_=>⟨m,h,rfl,hs,fun k hk=>.inl hk⟩
 |p::ps,m,f,h,hs,hm,hd,hn=>by
  have h:iteB (zA9 p.i ins) (zAq m p.b p.x fun m=>zA4 ins ps m f) (zA4 ins ps m fun ps m=>f (p::ps) m)=.ok:=h;rw[zV] at h;have hn':=List.nodup_cons.1 (by simpa using hn:(p.i::ps.map Pend.i).Nodup);have hne:∀q∈ps,p.i≠q.i:=fun q hq e=>hn'.1 (List.mem_map.2 ⟨q,hq,e.symm⟩)
  split at h<;>rename_i hc
  ·obtain⟨t',h1,h2⟩:=T.setK_ok (h:m.t.setK p.b p.x (fun t=>zA4 ins ps ⟨m.next,t⟩ f)=.ok)
   obtain⟨pl,k1,k2,k3,k4⟩:=hm p (rD ..) hc;have hs1:=hs.lay h2 k1 k2 k3 k4;have hocc:∀k,occ ι ⟨m.next,t'⟩ k->occ ι m k∨pl.blk=k:=fun k ⟨c,y,q,hy,hq,e⟩=>by
    rcases h2 c y hy with⟨rfl,rfl⟩|⟨_,hy'⟩
    ·rw[k1] at hq;injection hq with hq;subst hq;exact .inr e
    ·exact .inl ⟨c,y,q,hy',hq,e⟩
   obtain⟨m',j1,j2,j3,j4⟩:=zCs h1 hs1 (fun q hq hqc=>by
    obtain⟨ql,l1,l2,l3,l4⟩:=hm q (rA _ hq) hqc;refine⟨ql,l1,l2,l3,fun ho=>?_⟩;rcases hocc _ ho with ho|e
    ·exact l4 ho
    ·exact hd p (rD ..) q (rA _ hq) (hne q hq) hc pl ql k1 l1 e) (fun q hq r hr=>hd q (rA _ hq) r (rA _ hr)) hn'.2
   refine⟨m',?_,j2,j3,fun k hk=>?_⟩
   ·simpa[List.filter_cons,hc] using j1
   ·rcases j4 k hk with hk|⟨q,q1,q2,q3⟩
    ·rcases hocc k hk with hk|e
     ·exact .inl hk
     ·exact .inr ⟨p,rD ..,hc,pl,k1,k2,e⟩
    ·exact .inr ⟨q,rA _ q1,q2,q3⟩
  ·obtain⟨m',j1,j2,j3,j4⟩:=zCs h hs (fun q hq=>hm q (rA _ hq)) (fun q hq r hr=>hd q (rA _ hq) r (rA _ hr)) hn'.2
   refine⟨m',?_,j2,j3,fun k hk=>?_⟩
   ·simpa[List.filter_cons,hc] using j1
   ·rcases j4 k hk with hk|⟨q,q1,q2,q3⟩
    ·exact .inl hk
    ·exact .inr ⟨q,rA _ q1,q2,q3⟩
theorem zHe {x:Operand} {fr:Fr} {f:AV->R} (h:ev x fr f=.ok):∃v,f v=.ok:=by
 cases x with
 |tmp t=>obtain⟨v,_,h⟩:=Fr.getK_ok (h:fr.getK t f=.ok);exact⟨v,h⟩
 |const v=>obtain⟨a,_,h⟩:=zF h;exact⟨a,h⟩
 |global g=>exact⟨_,(zB h).2⟩
 |func i=>exact⟨_,h⟩
theorem zJB {place:Nat->Option (Nat×Nat)} {fr:Fr}:∀ {ps:List (Nat×Operand)} {cs:List AV} {f:List AV->R},pP place fr ps cs f=.ok->∃l,f l=.ok
 |[],cs,f,h=>⟨cs,h⟩
 |(i,x)::ps,cs,f,h=>by
  obtain⟨v,h1⟩:=zHe (h:ev x fr (fun v=>zP 0 (place i) fun pl=>zAV v.cells fun n=>ifB 0 (Nat.beq n pl.2) (pM cs pl.1 v.cells fun s=>pP place fr ps s f))=.ok);obtain⟨pl,_,h2⟩:=zF h1;rw[xR] at h2;exact zJB (zAD (zB h2).2).2
theorem zLW {o:Op} {g:G} {fr:Fr} {E:Blk->AK->R} (h:pW o g fr E=.ok):∃x k,E x k=.ok:=by
 cases o<;>first|(cases h;done)|skip
 case alloc e=>obtain⟨z,_,h⟩:=zF (h:zP 0 (g.zero e) _=.ok);exact⟨_,_,h⟩
 case box e x=>obtain⟨v,h⟩:=zHe (h:ev x fr _=.ok);exact⟨_,_,h⟩
 case buildSlice t n ps=>
  simp only[pW] at h;split at h<;>first|(cases h;done)|skip
  obtain⟨s,_,h⟩:=zF h;obtain⟨z,_,h⟩:=zF (zB (zB h).2).2;rw[xR] at h;have h:=(zB h).2;rw[zAt] at h;obtain⟨l,h⟩:=zJB h;exact⟨_,_,h⟩
 case makeMap t r=>
  cases r<;>first|(cases h;done)|skip
  exact⟨_,_,h⟩
 case makeSlice t l c=>
  obtain⟨u,h⟩:=zHe (h:ev l fr _=.ok);obtain⟨v,h⟩:=zHe h;split at h<;>first|(cases h;done)|skip
  obtain⟨_,_,_,h⟩:=vB h;obtain⟨_,_,_,h⟩:=vB h;obtain⟨s,_,h⟩:=zF (zB (zB h).2).2;obtain⟨z,_,h⟩:=zF (zB h).2;rw[xR] at h;obtain⟨ie,_,h⟩:=zF (zB h).2;have h:=(zB h).2;rw[zAt] at h;exact⟨_,_,h⟩
theorem zP9 {r:R} {f:AV->R} (h:zRj r f=.ok):∃v,f v=.ok:=by
 cases r<;>first|(cases h;done)|exact⟨_,h⟩
theorem zHS {g:G} {call:yT} {ops:Array Oper} {fr:Fr} {m:Mem} {r:R}:∀ {l:List Nat},zBN g call ops l fr m r=.ok->r=.ok/\∀j∈l,zAy g call ops j fr m=.ok
 |[],h=>⟨h,fun _ h=>by cases h⟩
 |i::l,h=>by
  obtain⟨h1,h2⟩:=zFj (h:zIk (zAy g call ops i fr m) (zBN g call ops l fr m r)=.ok);obtain⟨h3,h4⟩:=zHS h2;exact⟨h3,fun j hj=>by
   rcases rK.1 hj with rfl|hj
   ·exact h1
   ·exact h4 j hj⟩
end
section
variable {P:Program} {F:Fence} {n:Nat} {g:G} {call:yT} {mask:Nat} {ops:Array Oper} {S0:List DStep} {ι0:Inj} {m0:Mem} {w0:World}
def Dn (D:Array Bool) (i:Nat):Prop:=D.getD i false=true
def Waits (S0:List DStep) (D:Array Bool) (rest:List DStep) (s:DStep):Prop:=s∈S0/\xC s=true/\zC s∉rest.map zC/\¬Dn D (zC s)
structure Inv (P:Program) (g:G) (call:yT) (ops:Array Oper) (S0:List DStep) (mask:Nat) (ι0:Inj) (m0:Mem) (w0:World) (top:Nat) (D:Array Bool) (rest:List DStep) (ι:Inj) (fr:Fr) (m:Mem) (nm:Nat) (ps:List Pend) (a:Act) (w:World):Prop where
 step:Step P ι0 m0 w0 ι m w
 defs:zAQ w0.heap.size ι m w a.defers
 size:a.tmps.size=fr.n
 ng:fr.ng<=P.globals.size
 masked:fr.masked mask
 low:∀t x,fr.find t=some x->t<fr.n
 split:∃pre,S0=pre++rest
 dsize:D.size=ops.size
 closed:∀x o,Dn D x->ops[x]? =some o->∀e∈o.after,Region.binds .any e=true->Dn D e.on
 inB:∀x,Dn D x->x∉rest.map zC
 effs:∀s∈S0,xC s=false->zC s∉rest.map zC->Dn D (zC s)
 val:∀t x,fr.find t=some x->(∃s,Waits S0 D rest s/\zEx ops (zC s)=some t)∨∃V,conc ι x=some V/\a.tmps[t]? =some V
 pures:∀j,Waits S0 D rest (.pure j)->zAy g call ops j fr m=.ok
 allocs:∀j,Waits S0 D rest (.alloc j)->∃p∈ps,p.i=j/\ι p.b=none/\zLH g ops p fr=.ok
 pend:∀p∈ps,DStep.alloc p.i∈S0/\p.i∉rest.map zC/\(m0.next<=p.b/\p.b<nm)/\(Dn D p.i->Made P ι m w w0.heap.size p)
 dist:∀p∈ps,∀q∈ps,p.i≠q.i->p.b≠q.b/\(Dn D p.i->∀pl ql,ι p.b=some pl->ι q.b=some ql->pl.blk≠ql.blk)
 once:(ps.map Pend.i).Nodup
 names:(m0.next<=nm/\nm<=top/\top<=m.next)/\∀c,nm<=c->c<top->ι c=none
section
variable {D:Array Bool} {rest:List DStep} {ι:Inj} {fr:Fr} {m:Mem} {top nm:Nat} {ps:List Pend} {a:Act} {w:World} (hO:zBS ops S0)
include hO
theorem zCh {s s':DStep} (h:s∈S0) (h':s'∈S0) (e:zC s=zC s'):s=s':=by
 have key:∀ {l:List DStep},(l.map zC).Nodup->s∈l->s'∈l->s=s':=by
  intro l;induction l with
  |nil=>intro _ h;cases h
  |cons x l ih=>
   intro hn h1 h2;have hn:=List.nodup_cons.1 (by simpa using hn:(zC x::l.map zC).Nodup);rcases rK.1 h1 with e1|h3
   ·rcases rK.1 h2 with e2|h4
    ·rw[e1,e2]
    ·exact absurd (List.mem_map.2 ⟨s',h4,by rw[<-e,e1]⟩) hn.1
   ·rcases rK.1 h2 with e2|h4
    ·exact absurd (List.mem_map.2 ⟨s,h3,by rw[e,e2]⟩) hn.1
    ·exact ih hn.2 h3 h4
 exact key hO.nodup h h'
theorem Inv.seen (hI:Inv P g call ops S0 mask ι0 m0 w0 top D rest ι fr m nm ps a w) {i:Nat} {o:Oper} (hi:ops[i]? =some o) (hp:∀e∈o.after,Region.binds .any e=true->Dn D e.on):Seen P ι fr a (looks ops o):=by
 refine⟨hI.size,hI.ng,fun t x ht hx=>?_⟩;rcases hI.val t x hx with⟨s,⟨h1,h2,h3,h4⟩,h5⟩|h
 ·exfalso
  unfold zEx at h5;cases ho:ops[zC s]? with
  |none=>rw[ho] at h5;cases h5
  |some oj=>
   rw[ho] at h5;have:=hO.seen s h1 h2 i o oj t hi ho h5 ht;exact h4 (zGh (D:=Dn D) hO.back hI.closed i hi hp this)
 ·exact h
theorem Inv.ancD (hI:Inv P g call ops S0 mask ι0 m0 w0 top D rest ι fr m nm ps a w) {i j:Nat} {o:Oper} (hi:ops[i]? =some o) (hp:∀e∈o.after,Region.binds .any e=true->Dn D e.on) (h:anc (masks ops) i j=true):Dn D j:=
 zGh (D:=Dn D) hO.back hI.closed i hi hp h
omit hO in
theorem zI2 {j:Nat} {fr':Fr} (hng:fr'.ng=fr.ng) (h:∀oj d,ops[j]? =some oj->oj.dst=some d->fr'.find d=fr.find d/\∀t,Operand.tmp t∈looks ops oj->fr'.find t=fr.find t):zAy g call ops j fr' m=zAy g call ops j fr m:=by
 unfold zAy;cases hj:ops[j]? with
 |none=>rfl
 |some oj=>
  show zP 0 oj.dst _=zP 0 oj.dst _;cases hd:oj.dst with
  |none=>rfl
  |some d=>
   obtain⟨h1,h2⟩:=h oj d hj hd;have e:∀f,qI g call ops oj fr' m f=qI g call ops oj fr m f:=fun f=>zFN ⟨hng,h2⟩
   show fr'.getK d _=fr.getK d _;rw[Fr.getK_eq,Fr.getK_eq,h1];simp only[e]
omit hO in
theorem zGC {p:Pend} {fr':Fr} (hng:fr'.ng=fr.ng) (h:∀oj d,ops[p.i]? =some oj->oj.dst=some d->fr'.find d=fr.find d/\∀t,Operand.tmp t∈looks ops oj->fr'.find t=fr.find t):zLH g ops p fr'=zLH g ops p fr:=by
 unfold zLH;cases hj:ops[p.i]? with
 |none=>rfl
 |some oj=>
  show zP 0 oj.dst _=zP 0 oj.dst _;cases hd:oj.dst with
  |none=>rfl
  |some d=>
   obtain⟨h1,h2⟩:=h oj d hj hd;have e:∀f,pW oj.op g fr' f=pW oj.op g fr f:=fun f=>zDC ⟨hng,fun t ht=>h2 t (List.mem_append_left _ ht)⟩
   show fr'.getK d _=fr.getK d _;rw[Fr.getK_eq,Fr.getK_eq,h1];simp only[e]
omit hO in
theorem zAf {d:Nat} {v:AV} {t:Nat}:(⟨.cons d v fr.log,fr.t,fr.n,fr.ng⟩:Fr).find t=if d=t then some v else fr.find t:=by
 simp only[Fr.find,Log.find];split<;>simp
theorem Inv.hoist {s:DStep} (hI:Inv P g call ops S0 mask ι0 m0 w0 top D (s::rest) ι fr m nm ps a w) (hs:xC s=true) {o:Oper} {d:Tmp} (ho:ops[zC s]? =some o) (hd:o.dst=some d) {v:AV} {nm':Nat} {ps':List Pend} (hlt:d<fr.n)
  (hm:nm'=nm/\ps'=ps/\(∃j,s=.pure j)∨∃x k,nm'=nm+1/\nm<top/\s=.alloc (zC s)/\ps'=⟨zC s,nm,x,k⟩::ps/\zLH g ops ⟨zC s,nm,x,k⟩ ⟨.cons d v fr.log,fr.t,fr.n,fr.ng⟩=.ok)
  (hp:∀j,s=.pure j->zAy g call ops j ⟨.cons d v fr.log,fr.t,fr.n,fr.ng⟩ m=.ok):
  Inv P g call ops S0 mask ι0 m0 w0 top D rest ι ⟨.cons d v fr.log,fr.t,fr.n,fr.ng⟩ m nm' ps' a w:=by
 obtain⟨pre,hpre⟩:=hI.split;have hsS:s∈S0:=by rw[hpre];simp
 have hnD:¬Dn D (zC s):=fun h=>hI.inB _ h (by simp)
 have hnr:zC s∉rest.map zC:=by
  have:=hO.nodup;rw[hpre] at this;simp only[List.map_append,List.map_cons] at this;exact(List.nodup_cons.1 (List.nodup_append.1 this).2.1).1
 have hW:∀ {s'},Waits S0 D rest s'->s'=s∨(Waits S0 D (s::rest) s'/\zC s'≠zC s):=fun {s'} ⟨h1,h2,h3,h4⟩=>by
  by_cases e:zC s'=zC s
  ·exact .inl (zCh hO h1 hsS e)
  ·exact .inr ⟨⟨h1,h2,by simpa[e] using h3,h4⟩,e⟩
 have hW':∀ {s'},Waits S0 D (s::rest) s'->Waits S0 D rest s':=fun {s'} ⟨h1,h2,h3,h4⟩=>⟨h1,h2,fun h=>h3 (rA _ h),h4⟩
 have hfree:∀ {s'},Waits S0 D (s::rest) s'->zC s'≠zC s->∀oj d',ops[zC s']? =some oj->oj.dst=some d'->(⟨.cons d v fr.log,fr.t,fr.n,fr.ng⟩:Fr).find d'=fr.find d'/\
   ∀t,Operand.tmp t∈looks ops oj->(⟨.cons d v fr.log,fr.t,fr.n,fr.ng⟩:Fr).find t=fr.find t:=fun {s'} ⟨h1,h2,h3,h4⟩ hne oj d' hj hd'=>by
  have hpre':s'∈pre:=by
   rw[hpre] at h1;rcases List.mem_append.1 h1 with h|h
   ·exact h
   ·exact absurd (List.mem_map.2 ⟨_,h,rfl⟩) h3
  refine⟨?_,fun t ht=>?_⟩
  ·rw[zAf,if_neg]
   intro e;subst e;exact hO.uniq s hsS hs (zC s') oj o d hne hj ho hd hd'
  ·rw[zAf,if_neg]
   intro e;subst e;have:=(hO.free pre s rest hpre s' hpre' h2 o oj d ho hj hd ht).1;rw[hs] at this;cases this
 have hnn:nm<=nm':=by rcases hm with⟨rfl,_⟩|⟨_,_,rfl,_⟩<;>omega
 have hps:∀p∈ps,p∈ps':=fun p hp=>by rcases hm with⟨_,rfl,_⟩|⟨_,_,_,_,_,rfl,_⟩<;>simp[hp]
 refine⟨hI.step,hI.defs,hI.size,hI.ng,fun k x hx=>hI.masked k x hx,fun t x hx=>?_,⟨pre++[s],by simp[hpre]⟩,hI.dsize,hI.closed,fun x hx h=>hI.inB x hx (rA _ h),fun s' h1 h2 h3=>hI.effs s' h1 h2 ?_,fun t x hx=>?_,fun j hj=>?_,fun j hj=>?_,fun p hp'=>?_,?_,?_,?_⟩
 ·rw[zAf] at hx
  split at hx
  ·rename_i e;subst e;exact hlt
  ·exact hI.low t x hx
 ·rw[List.map_cons,rK,not_or]
  refine⟨fun e=>?_,h3⟩;have:=zCh hO h1 hsS e;subst this;rw[hs] at h2;cases h2
 ·rw[zAf] at hx
  split at hx
  ·rename_i e;subst e
   exact .inl ⟨s,⟨hsS,hs,hnr,hnD⟩,by rw[zBa ho];exact hd⟩
  ·rcases hI.val t x hx with⟨s',h1,h2⟩|h
   ·exact .inl ⟨s',hW' h1,h2⟩
   ·exact .inr h
 ·rcases hW hj with e|⟨h1,h2⟩
  ·exact hp j e.symm
  ·rw[zI2 (fr:=fr) (fr':=⟨.cons d v fr.log,fr.t,fr.n,fr.ng⟩) (j:=j) rfl (fun oj d' hj hd'=>hfree h1 h2 oj d' hj hd')];exact hI.pures j h1
 ·rcases hW hj with e|⟨h1,h2⟩
  ·rcases hm with⟨_,_,j',e2⟩|⟨x,k,rfl,hlt',e2,rfl,hc⟩
   ·rw[<-e] at e2;cases e2
   ·refine⟨_,rD ..,?_,hI.names.2 nm (Nat.le_refl _) hlt',hc⟩
    rw[<-e];rfl
  ·obtain⟨p,p1,p2,p3,p6⟩:=hI.allocs j h1
   refine⟨p,hps p p1,p2,p3,?_⟩;subst p2;rw[zGC (fr:=fr) (fr':=⟨.cons d v fr.log,fr.t,fr.n,fr.ng⟩) (p:=p) rfl (fun oj d' hj hd'=>hfree h1 h2 oj d' hj hd')];exact p6
 ·have old:p∈ps->DStep.alloc p.i∈S0/\p.i∉rest.map zC/\(m0.next<=p.b/\p.b<nm')/\(Dn D p.i->Made P ι m w w0.heap.size p):=fun h=>by
   obtain⟨h1,h2,⟨h3,h3'⟩,h4⟩:=hI.pend p h;exact⟨h1,fun h=>h2 (rA _ h),⟨h3,by omega⟩,h4⟩
  rcases hm with⟨_,rfl,_⟩|⟨x,k,rfl,hlt',e2,rfl,hc⟩
  ·exact old hp'
  ·rcases rK.1 hp' with rfl|hp'
   ·exact⟨e2▸hsS,hnr,⟨hI.names.1.1,by simp⟩,fun h=>absurd h hnD⟩
   ·exact old hp'
 ·rcases hm with⟨_,rfl,_⟩|⟨x,k,rfl,hlt',e2,rfl,hc⟩
  ·exact hI.dist
  ·intro p hp1 q hq1 hne
   rcases rK.1 hp1 with rfl|hp1<;>rcases rK.1 hq1 with rfl|hq1
   ·exact absurd rfl hne
   ·exact⟨by have:=(hI.pend q hq1).2.2.1.2;simp;omega,fun h=>absurd h hnD⟩
   ·refine⟨by have:=(hI.pend p hp1).2.2.1.2;simp;omega,fun _ pl ql _ hq=>?_⟩
    simp only at hq;rw[hI.names.2 nm (Nat.le_refl _) hlt'] at hq;cases hq
   ·exact hI.dist p hp1 q hq1 hne
 ·rcases hm with⟨_,rfl,_⟩|⟨x,k,rfl,hlt',e2,rfl,hc⟩
  ·exact hI.once
  ·simp only[List.map_cons]
   refine List.nodup_cons.2 ⟨fun h=>?_,hI.once⟩;obtain⟨q,q1,q2⟩:=List.mem_map.1 h;exact(hI.pend q q1).2.1 (by simp[q2])
 ·have:=hI.names
  rcases hm with⟨rfl,_⟩|⟨x,k,rfl,hlt',_⟩
  ·exact this
  ·exact⟨⟨by omega,by omega,this.1.2.2⟩,fun c h1 h2=>this.2 c (by omega) h2⟩
end
end
section
variable {P:Program}
theorem World.putObj_putObj (w:World) (b:Nat) (x y:Obj):(w.putObj b x).putObj b y=w.putObj b y:=by
 simp only[World.putObj];congr 1;apply Array.ext_getElem?;intro i;by_cases h:b=i
 ·subst h
  by_cases hs:b<w.heap.size
  ·simp[hs]
  ·rw[rE (by simp;omega),rE (by simp;omega)]
 ·simp only[rC h]
theorem World.putObj_comm (w:World) {b c:Nat} (x y:Obj) (h:b≠c):(w.putObj b x).putObj c y=(w.putObj c y).putObj b x:=by
 simp only[World.putObj];rw[Array.setIfInBounds_comm _ _ h]
theorem World.putObj_self (w:World) {b:Nat} {x:Obj} (h:w.heap[b]? =some x):w.putObj b x=w:=by
 have:w.heap.setIfInBounds b x=w.heap:=by
  apply Array.ext_getElem?;intro i;by_cases e:b=i
  ·subst e;rw[h];simp[zA2 h]
  ·rw[rC e]
 simp only[World.putObj,this]
theorem zJL {w:World} {b k:Nat} {v:Value} {C:Array Value} {e:TypeId} {fz:Nat×Nat} (h:w.heap[b]? =some (.cells C e fz)):w.setCell ⟨b,k,none⟩ v=w.putObj b (.cells (C.setIfInBounds k v) e fz):=by
 simp only[World.setCell,World.putObj];congr 1;apply Array.ext_getElem?;intro i;by_cases hb:b=i
 ·subst hb
  have hlt:b<w.heap.size:=zA2 h;rw[rI,if_pos rfl,h];simp[hlt]
 ·rw[rI,if_neg hb,rC hb]
theorem zJE {w w':World} {b k:Nat} {v:Value} {C:Array Value} {e:TypeId} {fz:Nat×Nat} (h:w.heap[b]? =some (.cells C e fz)) (hr:(store ⟨b,k,none⟩ v).run P w=.ok () w'):
  w'=w.putObj b (.cells (C.setIfInBounds k v) e fz)/\∀w2:World,w2.heap[b]? =some (.cells C e fz)->(store ⟨b,k,none⟩ v).run P w2=.ok () (w2.putObj b (.cells (C.setIfInBounds k v) e fz)):=by
 by_cases hv:v.oneCell'=true
 ·have key:∀w:World,w.heap[b]? =some (.cells C e fz)->(store ⟨b,k,none⟩ v).run P w=if k<C.size/\¬(fz.1<=k/\k<fz.2) then .ok () (w.putObj b (.cells (C.setIfInBounds k v) e fz)) else(store ⟨b,k,none⟩ v).run P w:=fun w h=>by
   split
   ·rename_i hc
    rw[run_store P w _ v _ hv];have h1:w.cell? ⟨b,k,none⟩=some C[k]:=by rw[zCB h];exact rG hc.1
    have h2:w.frozen? ⟨b,k,none⟩=false:=by simp only[World.frozen?,h];simpa using hc.2
    rw[h1,h2,zJL h];rfl
   ·rfl
  have hc:k<C.size/\¬(fz.1<=k/\k<fz.2):=by
   rw[run_store P w _ v _ hv] at hr;by_cases hk:k<C.size
   ·refine⟨hk,fun hf=>?_⟩
    have h1:w.cell? ⟨b,k,none⟩=some C[k]:=by rw[zCB h];exact rG hk
    have h2:w.frozen? ⟨b,k,none⟩=true:=by simp only[World.frozen?,h];simpa using hf
    rw[h1,h2] at hr;cases hr
   ·exfalso
    have h1:w.cell? ⟨b,k,none⟩=none:=by rw[zCB h];exact rE (by omega)
    rw[h1] at hr;simp only[World.farStore,h] at hr;cases hr
  rw[key w h,if_pos hc] at hr;injection hr with _ hr
  refine⟨hr.symm,fun w2 h2=>?_⟩;rw[key w2 h2,if_pos hc]
 ·exfalso
  cases v<;>first|(exact hv rfl)|(simp[store,Sem.run] at hr;done)|skip
theorem zB6 {b:Nat} {e:TypeId} {fz:Nat×Nat}:∀ {vs:List Value} {i o:Nat} {w w':World} {C:Array Value},w.heap[b]? =some (.cells C e fz)->(Go.storeCells ⟨b,o,none⟩ vs i).run P w=.ok () w'->
  ∃C',w'=w.putObj b (.cells C' e fz)/\∀w2:World,w2.heap[b]? =some (.cells C e fz)->(Go.storeCells ⟨b,o,none⟩ vs i).run P w2=.ok () (w2.putObj b (.cells C' e fz))
 |[],i,o,w,w',C,h,hr=>by
  have:w=w':=by simpa[Go.storeCells] using hr
  subst this;exact⟨C,(World.putObj_self w h).symm,fun w2 h2=>by rw[World.putObj_self w2 h2];rfl⟩
 |v::vs,i,o,w,w',C,h,hr=>by
  simp only[Go.storeCells,rF,yO] at hr;cases hs:(store ⟨b,o+i,none⟩ v).run P w with
  |halt x y=>rw[hs] at hr;cases hr
  |ok u w1=>
   rw[hs] at hr;obtain⟨h1,h2⟩:=zJE h hs;have hlt:=zA2 h;have h3:w1.heap[b]? =some (.cells (C.setIfInBounds (o+i) v) e fz):=by rw[h1];exact World.putObj_heap_same hlt
   obtain⟨C',h4,h5⟩:=zB6 h3 (hr:(Go.storeCells ⟨b,o,none⟩ vs (i+1)).run P w1=.ok () w');refine⟨C',by rw[h4,h1,World.putObj_putObj],fun w2 hw2=>?_⟩;simp only[Go.storeCells,rF,yO,h2 w2 hw2,rH];rw[h5 _ (World.putObj_heap_same (zA2 hw2)),World.putObj_putObj]
theorem zAL {t:TypeId} {b o:Nat} {B:Value} {e:TypeId} {fz:Nat×Nat} {w w':World} {C:Array Value} (h:w.heap[b]? =some (.cells C e fz)) (hr:(rB t (.pointer (some ⟨b,o,none⟩)) B).run P w=.ok () w'):
  ∃C',w'=w.putObj b (.cells C' e fz)/\∀w2:World,w2.heap[b]? =some (.cells C e fz)->(rB t (.pointer (some ⟨b,o,none⟩)) B).run P w2=.ok () (w2.putObj b (.cells C' e fz)):=by
 have hsz:∀w2:World,(sizeOf t).run P w2=match P.info? t with|some i=>.ok i.size w2|none=>(sizeOf t).run P w2:=fun w2=>by
  cases hi:P.info? t with
  |some i=>simp[sizeOf,typeInfo,hi]
  |none=>rfl
 cases hi:P.info? t with
 |none=>
  exfalso;simp only[rB,rJ,storeVar,rF,rL,rH,sizeOf,typeInfo,run_program,hi] at hr;simp[stuck] at hr
 |some i=>
  have hs:∀w2:World,(sizeOf t).run P w2=.ok i.size w2:=fun w2=>by rw[hsz,hi]
  by_cases hc:B.cells.size=i.size
  ·have e1:∀w2:World,(rB t (.pointer (some ⟨b,o,none⟩)) B).run P w2=(Go.storeCells ⟨b,o,none⟩ B.cells.toList).run P w2:=fun w2=>by
    simp[rB,rJ,storeVar,hs,hc]
   rw[e1] at hr;obtain⟨C',h1,h2⟩:=zB6 h hr;exact⟨C',h1,fun w2 hw2=>by rw[e1];exact h2 w2 hw2⟩
  ·exfalso
   simp[rB,rJ,storeVar,hs,hc,stuck] at hr
end
theorem T.singleK_total {α:Type} {a:α} {key:Nat}:∀(d p:Nat),∃r,∀f:T α->R,T.singleK a key d p f=f r
 |0,p=>⟨_,fun f=>rfl⟩
 |d+1,p=>by
  obtain⟨r,h⟩:=T.singleK_total (a:=a) (key:=key) d (Nat.div p 2);by_cases e:Nat.mod p 2=0
  ·refine⟨.node r (.nil d),fun f=>?_⟩
   show(Nat.rec (motive:=fun _=>R) (T.singleK a key d (Nat.div p 2) fun t=>f (T.node t (T.nil d))) (fun _ _=>T.singleK a key d (Nat.div p 2) fun t=>f (T.node (T.nil d) t)) (Nat.mod p 2):R)=_;rw[xB,if_pos e,h]
  ·refine⟨.node (.nil d) r,fun f=>?_⟩
   show(Nat.rec (motive:=fun _=>R) (T.singleK a key d (Nat.div p 2) fun t=>f (T.node t (T.nil d))) (fun _ _=>T.singleK a key d (Nat.div p 2) fun t=>f (T.node (T.nil d) t)) (Nat.mod p 2):R)=_;rw[xB,if_neg e,h]
theorem T.setK_total {α:Type} (t:T α) (k:Nat) (a:α):∃r,∀f:T α->R,t.setK k a f=f r:=by
 suffices H:∀(t:T α) (p:Nat),∃r,∀f:T α->R,(T.rec (motive:=fun _=>Nat->Nat->α->(T α->R)->R) (fun d p k a f=>T.singleK a k d p f)
  (fun _ _ _ k a f=>f (T.leaf k a))
  (fun l r ihl ihr p k a f=>Nat.rec (motive:=fun _=>R) (ihl (Nat.div p 2) k a fun l=>f (T.node l r)) (fun _ _=>ihr (Nat.div p 2) k a fun r=>f (T.node l r)) (Nat.mod p 2)) t p k a f:R)=f r from H t k
 intro t;induction t with
 |nil d=>intro p;exact T.singleK_total d p
 |leaf key b=>intro p;exact⟨_,fun f=>rfl⟩
 |node l r ihl ihr=>
  intro p;by_cases e:Nat.mod p 2=0
  ·obtain⟨x,h⟩:=ihl (Nat.div p 2)
   refine⟨.node x r,fun f=>?_⟩;show(Nat.rec (motive:=fun _=>R) _ (fun _ _=>_) (Nat.mod p 2):R)=_;rw[xB,if_pos e,h]
  ·obtain⟨x,h⟩:=ihr (Nat.div p 2)
   refine⟨.node l x,fun f=>?_⟩;show(Nat.rec (motive:=fun _=>R) _ (fun _ _=>_) (Nat.mod p 2):R)=_;rw[xB,if_neg e,h]
theorem zAs {ins:List Nat}:∀(ps:List Pend) (m:Mem),∃ps' m',∀k:List Pend->Mem->R,zA4 ins ps m k=k ps' m'
 |[],m=>⟨[],m,fun _=>rfl⟩
 |p::ps,m=>by
  cases hb:zA9 p.i ins with
  |true=>
   obtain⟨t,ht⟩:=T.setK_total m.t p.b p.x;obtain⟨ps',m',h⟩:=zAs (ins:=ins) ps ⟨m.next,t⟩;refine⟨ps',m',fun k=>?_⟩;show iteB (zA9 p.i ins) (m.t.setK p.b p.x fun t=>zA4 ins ps ⟨m.next,t⟩ k) (zA4 ins ps m fun ps m=>k (p::ps) m)=_;rw[hb,ht,<-h k];rfl
  |false=>
   obtain⟨ps',m',h⟩:=zAs (ins:=ins) ps m;refine⟨p::ps',m',fun k=>?_⟩;show iteB (zA9 p.i ins) (m.t.setK p.b p.x fun t=>zA4 ins ps ⟨m.next,t⟩ k) (zA4 ins ps m fun ps m=>k (p::ps) m)=_;rw[hb,<-h fun ps m=>k (p::ps) m];rfl
section
variable {P:Program} {F:Fence} {n:Nat} {ops:Array Oper} {ι:Inj} {m:Mem} {fr:Fr} {a:Act} {w:World}
theorem zBV {i:Nat} (h:zEg ops i=true):∃o t x y,ops[i]? =some o/\o.op=.store t x y/\o.guard=none/\o.dst=none:=by
 unfold zEg at h;split at h
 ·rename_i o ho
  simp only[Bool.and_eq_true,Option.isNone_iff_eq_none] at h;obtain⟨⟨h1,h2⟩,h3⟩:=h;split at h1
  ·rename_i t x y hop
   exact⟨o,t,x,y,ho,hop,h2,h3⟩
  ·cases h1
 ·cases h
theorem zJK {i:Nat} {o:Oper} {t:TypeId} {x y:Operand} {K:Act->World->Prop} {Q:Exit->Act->World->Prop} (ho:ops[i]? =some o) (hop:o.op=.store t x y) (hg:o.guard=none) (hd:o.dst=none) (hF:Wide F) {w':World}
  (h:(rB t (a.eval x) (a.eval y)).run P w=.ok () w') (hK:K a w'):wpOpIn F n P ops Q i K a w:=by
 unfold wpOpIn;rw[ho];have hw:Region.wanted o (yielded ops a.tmps)=true:=by simp[Region.wanted,hg]
 simp only[hw,if_true];refine⟨fun _ _=>hF.fn _,?_⟩;rw[Oper.semAt_eq _ _ _ fun c hc=>by rw[hop] at hc;cases hc];simp only[execOp,hop,rF,h,rH,rL];show K (a.put o.dst undef) w';rw[hd];exact hK
theorem zCi {i:Nat} {o:Oper} {t:TypeId} {x y:Operand} {K:Act->World->Prop} (ho:ops[i]? =some o) (hop:o.op=.store t x y) (hg:o.guard=none) (hd:o.dst=none)
  (h:wpOpIn F n P ops (fun _ _ _=>False) i K a w):∃w',(rB t (a.eval x) (a.eval y)).run P w=.ok () w'/\K a w':=by
 unfold wpOpIn at h;rw[ho] at h;have hw:Region.wanted o (yielded ops a.tmps)=true:=by simp[Region.wanted,hg]
 simp only[hw,if_true] at h;have h:=h.2;rw[Oper.semAt_eq _ _ _ fun c hc=>by rw[hop] at hc;cases hc] at h;simp only[execOp,hop,rF] at h;cases hs:(rB t (a.eval x) (a.eval y)).run P w with
 |ok u w'=>
  rw[hs] at h;refine⟨w',rfl,?_⟩;have h:K (a.put o.dst undef) w':=h;rw[hd] at h;exact h
 |halt e w'=>
  rw[hs] at h;exfalso;cases e<;>exact h
theorem zCq {xs:List Operand} (hr:Rel P ι m w) (hs:Seen P ι fr a xs) {x:Operand} (hx:x∈xs) {k:AV->R} (h:ev x fr k=.ok):∃v,k v=.ok/\conc ι v=some (a.eval x):=by
 have e:=zL (x:=x) ((zD1 (fr:=fr) (xs:=xs)).sub (fun z hz=>by simp only[List.mem_singleton] at hz;rw[hz];exact hx));rw[<-e] at h;exact zCa hr hs.part h
end
