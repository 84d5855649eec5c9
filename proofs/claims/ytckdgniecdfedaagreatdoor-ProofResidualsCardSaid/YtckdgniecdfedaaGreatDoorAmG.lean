/- Draws of orders, second part. -/
import Derived.Test.YtckdgniecdfedaaGreatDoorAmF
section
namespace Go.AM
section
variable {P:Program} {ι ι':Inj} {m m':Mem} {w w':World} {ι0:Inj} {m0:Mem} {w0:World}
theorem Step.bump (h:Step P ι0 m0 w0 ι m w) {nx:Nat} (hn:m.next≤nx):Step P ι0 m0 w0 ι ⟨nx,m.t⟩ w:=
 ⟨h.le,⟨fun b hb=>h.rel.fresh b (by simp at hb;omega),h.rel.low,h.rel.blk,h.rel.apart⟩,h.size,h.old,h.wrs,h.os,h.tape,h.output,by have:=h.next;simp;omega,h.names,h.occs⟩
theorem Step.late (h:Step P ι0 m0 w0 ι m w) {b:Nat} {p:Pl} {o:Obj} (hb:ι b=none) (hlt:b<m.next) (hb0:m0.next≤b):Step P ι0 m0 w0 (ι.set b p) m {w with heap:=w.heap.push o}:=by
 have hle:=Inj.le_set (p:=p) hb
 have hk:∀k,k<w.heap.size→(w.heap.push o)[k]? =w.heap[k]? :=fun k hk=>by rw[Array.getElem?_push,if_neg (by omega)]
 have hback:∀c x,m.t.find c c=some x→∀q,(ι.set b p) c=some q→ι c=some q:=fun c x hx q hq=>by
  obtain⟨q',h1,_⟩:=h.rel.blk c x hx
  rw[hle _ _ h1] at hq
  rw[h1,hq]
 refine⟨h.le.trans hle,⟨fun c hc=>?_,fun g hg=>let⟨q,h1,h2⟩:=h.rel.low g hg;⟨q,hle _ _ h1,h2⟩,fun c x hx=>?_,fun c d x y q r hx hy hq hr=>h.rel.apart c d x y q r hx hy (hback c x hx q hq) (hback d y hy r hr)⟩,?_,fun k h1 h2=>?_,?_,h.os,h.tape,h.output,h.next,fun c hc hn=>?_,?_⟩
 ·simp only[Inj.set]
  rw[if_neg (by omega)]
  exact h.rel.fresh c hc
 ·obtain⟨q,h1,h2⟩:=h.rel.blk c x hx
  exact⟨q,hle _ _ h1,(h2.mono hle).at (hk _ (blk_lt h2))⟩
 ·have:=h.size;simp;omega
 ·rw[←h.old k h1 h2];exact hk k (by have:=h.size;omega)
 ·rintro k h1 ⟨c,x,q,hx,hw,hq,e⟩
  exact h.wrs k h1 ⟨c,x,q,hx,hw,hback c x hx q hq,e⟩
 ·simp only[Inj.set]
  rw[if_neg (by omega)]
  exact h.names c hc hn
 ·rintro k h1 ⟨c,x,q,hx,hq,e⟩
  exact h.occs k h1 ⟨c,x,q,hx,hback c x hx q hq,e⟩
theorem Step.lay (h:Step P ι0 m0 w0 ι m w) {t':T Blk} {b:Nat} {x:Blk} {p:Pl} (ht:t'.sub m.t b x) (hb:ι b=some p) (hx:BlkRel P ι p x w) (hp:w0.heap.size≤p.blk) (hno:¬occ ι m p.blk):Step P ι0 m0 w0 ι ⟨m.next,t'⟩ w:=by
 refine⟨h.le,⟨h.rel.fresh,h.rel.low,fun c y hy=>?_,fun c d y z q r hy hz hq hr e hw=>?_⟩,h.size,h.old,?_,h.os,h.tape,h.output,h.next,h.names,?_⟩
 ·rcases ht c y hy with⟨rfl,rfl⟩|⟨_,hy'⟩
  ·exact⟨p,hb,hx⟩
  ·exact h.rel.blk c y hy'
 ·rcases ht c y hy with⟨rfl,rfl⟩|⟨hc,hy'⟩<;>rcases ht d z hz with⟨rfl,rfl⟩|⟨hd,hz'⟩
  ·rfl
  ·rw[hb] at hq;injection hq with hq;subst hq
   exact absurd ⟨d,z,r,hz',hr,e.symm⟩ hno
  ·rw[hb] at hr;injection hr with hr;subst hr
   exact absurd ⟨c,y,q,hy',hq,e⟩ hno
  ·exact h.rel.apart c d y z q r hy' hz' hq hr e hw
 ·rintro k hk ⟨c,y,q,hy,hw,hq,e⟩
  rcases ht c y hy with⟨rfl,rfl⟩|⟨hc,hy'⟩
  ·rw[hb] at hq;injection hq with hq;subst hq;omega
  ·exact h.wrs k hk ⟨c,y,q,hy',hw,hq,e⟩
 ·rintro k hk ⟨c,y,q,hy,hq,e⟩
  rcases ht c y hy with⟨rfl,rfl⟩|⟨hc,hy'⟩
  ·rw[hb] at hq;injection hq with hq;subst hq;omega
  ·exact h.occs k hk ⟨c,y,q,hy',hq,e⟩
theorem DefOk.ext {N:Nat} (h1:∀r o,w.heap[r]? =some (.deferred o)→¬occ ι m r→w'.heap[r]? =w.heap[r]?∧¬occ ι' m' r):∀ {ds:List Deferred},DefOk N ι m w ds→DefOk N ι' m' w' ds
 |[],_=>trivial
 |_::_,⟨⟨r,e,g2,g3,g4,g5⟩,g6⟩=>by
  obtain⟨k1,k2⟩:=h1 r _ g3 g4
  exact⟨⟨r,e,g2,by rw[k1];exact g3,k2,g5⟩,g6.ext h1⟩
theorem blk_not_deferred {p:Pl} {x:Blk} {o:Option (List Deferred)} (h:BlkRel P ι p x w):w.heap[p.blk]?≠some (.deferred o):=by
 intro e
 cases x with
 |cells c t g z=>obtain⟨C,e',fz,L,h1,_⟩:=h;rw[e] at h1;cases h1
 |map es clock=>obtain⟨E,h1,_⟩:=h;rw[e] at h1;cases h1
 |iter mb since seen stepped=>obtain⟨_,m',h1,_⟩:=h;rw[e] at h1;cases h1
 |loop st pend fr mask fn params assign body=>obtain⟨_,_,L,h1,_⟩:=h;rw[e] at h1;cases h1
def Made (P:Program) (ι:Inj) (m:Mem) (w:World) (N:Nat) (p:Pend):Prop:=∃pl,ι p.b=some pl∧BlkRel P ι pl p.x w∧N≤pl.blk∧¬occ ι m pl.blk
theorem Made.step {N:Nat} {p:Pend} (h:Made P ι m w N p) (hs:Step P ι m w ι' m' w'):Made P ι' m' w' N p:=by
 obtain⟨pl,h1,h2,h3,h4⟩:=h
 have hlt:=blk_lt h2
 exact⟨pl,hs.le _ _ h1,(h2.mono hs.le).at (hs.old _ hlt fun hw=>h4 (wr_occ hw)),h3,fun ho=>h4 (hs.occs _ hlt ho)⟩
theorem memB_iff {i:Nat}:∀ {l:List Nat},memB i l=true↔i∈l
 |[]=>by simp[memB]
 |j::l=>by
  have e:memB i (j::l)=iteB (Nat.beq i j) true (memB i l):=rfl
  rw[e,iteB_eq,List.mem_cons]
  by_cases h:i=j
  ·simp[h]
  ·have hb:Nat.beq i j=false:=by cases h':Nat.beq i j with|false=>rfl|true=>exact absurd (Nat.eq_of_beq_eq_true h') h
   rw[hb]
   simp[h,memB_iff]
theorem insK_ok {ins:List Nat}:∀ {ps:List Pend} {m:Mem} {f:List Pend→Mem→R},insK ins ps m f=.ok→Step P ι0 m0 w0 ι m w→(∀p∈ps,memB p.i ins=true→Made P ι m w w0.heap.size p)→
  (∀p∈ps,∀q∈ps,p.i≠q.i→memB p.i ins=true→∀pl ql,ι p.b=some pl→ι q.b=some ql→pl.blk≠ql.blk)→(ps.map Pend.i).Nodup→
  ∃m',f (ps.filter fun p=>!memB p.i ins) m'=.ok∧m'.next=m.next∧Step P ι0 m0 w0 ι m' w∧∀k,occ ι m' k→occ ι m k∨∃p∈ps,memB p.i ins=true∧∃pl,ι p.b=some pl∧BlkRel P ι pl p.x w∧pl.blk=k
 |[],m,f,h,hs,_,_,_=>⟨m,h,rfl,hs,fun k hk=>.inl hk⟩
 |p::ps,m,f,h,hs,hm,hd,hn=>by
  have h:iteB (memB p.i ins) (putK m p.b p.x fun m=>insK ins ps m f) (insK ins ps m fun ps m=>f (p::ps) m)=.ok:=h
  rw[iteB_eq] at h
  have hn':=List.nodup_cons.1 (by simpa using hn:(p.i::ps.map Pend.i).Nodup)
  have hne:∀q∈ps,p.i≠q.i:=fun q hq e=>hn'.1 (List.mem_map.2 ⟨q,hq,e.symm⟩)
  split at h<;>rename_i hc
  ·obtain⟨t',h1,h2⟩:=T.setK_ok (h:m.t.setK p.b p.x (fun t=>insK ins ps ⟨m.next,t⟩ f)=.ok)
   obtain⟨pl,k1,k2,k3,k4⟩:=hm p (List.mem_cons_self ..) hc
   have hs1:=hs.lay h2 k1 k2 k3 k4
   have hocc:∀k,occ ι ⟨m.next,t'⟩ k→occ ι m k∨pl.blk=k:=fun k ⟨c,y,q,hy,hq,e⟩=>by
    rcases h2 c y hy with⟨rfl,rfl⟩|⟨_,hy'⟩
    ·rw[k1] at hq;injection hq with hq;subst hq;exact .inr e
    ·exact .inl ⟨c,y,q,hy',hq,e⟩
   obtain⟨m',j1,j2,j3,j4⟩:=insK_ok h1 hs1 (fun q hq hqc=>by
    obtain⟨ql,l1,l2,l3,l4⟩:=hm q (List.mem_cons_of_mem _ hq) hqc
    refine⟨ql,l1,l2,l3,fun ho=>?_⟩
    rcases hocc _ ho with ho|e
    ·exact l4 ho
    ·exact hd p (List.mem_cons_self ..) q (List.mem_cons_of_mem _ hq) (hne q hq) hc pl ql k1 l1 e) (fun q hq r hr=>hd q (List.mem_cons_of_mem _ hq) r (List.mem_cons_of_mem _ hr)) hn'.2
   refine⟨m',?_,j2,j3,fun k hk=>?_⟩
   ·simpa[List.filter_cons,hc] using j1
   ·rcases j4 k hk with hk|⟨q,q1,q2,q3⟩
    ·rcases hocc k hk with hk|e
     ·exact .inl hk
     ·exact .inr ⟨p,List.mem_cons_self ..,hc,pl,k1,k2,e⟩
    ·exact .inr ⟨q,List.mem_cons_of_mem _ q1,q2,q3⟩
  ·obtain⟨m',j1,j2,j3,j4⟩:=insK_ok h hs (fun q hq=>hm q (List.mem_cons_of_mem _ hq)) (fun q hq r hr=>hd q (List.mem_cons_of_mem _ hq) r (List.mem_cons_of_mem _ hr)) hn'.2
   refine⟨m',?_,j2,j3,fun k hk=>?_⟩
   ·simpa[List.filter_cons,hc] using j1
   ·rcases j4 k hk with hk|⟨q,q1,q2,q3⟩
    ·exact .inl hk
    ·exact .inr ⟨q,List.mem_cons_of_mem _ q1,q2,q3⟩
theorem ev_ex {x:Operand} {fr:Fr} {f:AV→R} (h:ev x fr f=.ok):∃v,f v=.ok:=by
 cases x with
 |tmp t=>obtain⟨v,_,h⟩:=Fr.getK_ok (h:fr.getK t f=.ok);exact⟨v,h⟩
 |const v=>obtain⟨a,_,h⟩:=optK_ok h;exact⟨a,h⟩
 |global g=>exact⟨_,(ifB_ok h).2⟩
 |func i=>exact⟨_,h⟩
theorem fillK_ex {place:Nat→Option (Nat×Nat)} {fr:Fr}:∀ {ps:List (Nat×Operand)} {cs:List AV} {f:List AV→R},fillK place fr ps cs f=.ok→∃l,f l=.ok
 |[],cs,f,h=>⟨cs,h⟩
 |(i,x)::ps,cs,f,h=>by
  obtain⟨v,h1⟩:=ev_ex (h:ev x fr (fun v=>optK 0 (place i) fun pl=>lenK v.cells fun n=>ifB 0 (Nat.beq n pl.2) (spliceK cs pl.1 v.cells fun s=>fillK place fr ps s f))=.ok)
  obtain⟨pl,_,h2⟩:=optK_ok h1
  rw[lenK_eq] at h2
  exact fillK_ex (spliceK_ok (ifB_ok h2).2).2
theorem allocOf_ex {o:Op} {g:G} {fr:Fr} {E:Blk→AK→R} (h:allocOf o g fr E=.ok):∃x k,E x k=.ok:=by
 cases o<;>first|(cases h;done)|skip
 case alloc e=>obtain⟨z,_,h⟩:=optK_ok (h:optK 0 (g.zero e) _=.ok);exact⟨_,_,h⟩
 case box e x=>obtain⟨v,h⟩:=ev_ex (h:ev x fr _=.ok);exact⟨_,_,h⟩
 case buildSlice t n ps=>
  simp only[allocOf] at h
  split at h<;>first|(cases h;done)|skip
  obtain⟨s,_,h⟩:=optK_ok h
  obtain⟨z,_,h⟩:=optK_ok (ifB_ok (ifB_ok h).2).2
  rw[lenK_eq] at h
  have h:=(ifB_ok h).2
  rw[replK_eq] at h
  obtain⟨l,h⟩:=fillK_ex h
  exact⟨_,_,h⟩
 case makeMap t r=>
  cases r<;>first|(cases h;done)|skip
  exact⟨_,_,h⟩
 case makeSlice t l c=>
  obtain⟨u,h⟩:=ev_ex (h:ev l fr _=.ok)
  obtain⟨v,h⟩:=ev_ex h
  split at h<;>first|(cases h;done)|skip
  obtain⟨_,_,_,h⟩:=asNatK_ok h
  obtain⟨_,_,_,h⟩:=asNatK_ok h
  obtain⟨s,_,h⟩:=optK_ok (ifB_ok (ifB_ok h).2).2
  obtain⟨z,_,h⟩:=optK_ok (ifB_ok h).2
  rw[lenK_eq] at h
  obtain⟨ie,_,h⟩:=optK_ok (ifB_ok h).2
  have h:=(ifB_ok h).2
  rw[replK_eq] at h
  exact⟨_,_,h⟩
theorem outK_ok {r:R} {f:AV→R} (h:outK r f=.ok):∃v,f v=.ok:=by
 cases r<;>first|(cases h;done)|exact⟨_,h⟩
theorem chkAll_ok {g:G} {call:CallF} {ops:Array Oper} {fr:Fr} {m:Mem} {r:R}:∀ {l:List Nat},chkAll g call ops l fr m r=.ok→r=.ok∧∀j∈l,chkOne g call ops j fr m=.ok
 |[],h=>⟨h,fun _ h=>by cases h⟩
 |i::l,h=>by
  obtain⟨h1,h2⟩:=andR_ok (h:andR (chkOne g call ops i fr m) (chkAll g call ops l fr m r)=.ok)
  obtain⟨h3,h4⟩:=chkAll_ok h2
  exact⟨h3,fun j hj=>by
   rcases List.mem_cons.1 hj with rfl|hj
   ·exact h1
   ·exact h4 j hj⟩
end
section
variable {P:Program} {F:Fence} {n:Nat} {g:G} {call:CallF} {mask:Nat} {ops:Array Oper} {S0:List DStep} {ι0:Inj} {m0:Mem} {w0:World}
def Dn (D:Array Bool) (i:Nat):Prop:=D.getD i false=true
def Waits (S0:List DStep) (D:Array Bool) (rest:List DStep) (s:DStep):Prop:=s∈S0∧hoistStep s=true∧stepIdx s∉rest.map stepIdx∧¬Dn D (stepIdx s)
structure Inv (P:Program) (g:G) (call:CallF) (ops:Array Oper) (S0:List DStep) (mask:Nat) (ι0:Inj) (m0:Mem) (w0:World) (top:Nat) (D:Array Bool) (rest:List DStep) (ι:Inj) (fr:Fr) (m:Mem) (nm:Nat) (ps:List Pend) (a:Act) (w:World):Prop where
 step:Step P ι0 m0 w0 ι m w
 defs:DefOk w0.heap.size ι m w a.defers
 size:a.tmps.size=fr.n
 ng:fr.ng≤P.globals.size
 masked:fr.masked mask
 low:∀t x,fr.find t=some x→t<fr.n
 split:∃pre,S0=pre++rest
 dsize:D.size=ops.size
 closed:∀x o,Dn D x→ops[x]? =some o→∀e∈o.after,Region.binds .any e=true→Dn D e.on
 inB:∀x,Dn D x→x∉rest.map stepIdx
 effs:∀s∈S0,hoistStep s=false→stepIdx s∉rest.map stepIdx→Dn D (stepIdx s)
 val:∀t x,fr.find t=some x→(∃s,Waits S0 D rest s∧dstAt ops (stepIdx s)=some t)∨∃V,conc ι x=some V∧a.tmps[t]? =some V
 pures:∀j,Waits S0 D rest (.pure j)→chkOne g call ops j fr m=.ok
 allocs:∀j,Waits S0 D rest (.alloc j)→∃p∈ps,p.i=j∧ι p.b=none∧chkA g ops p fr=.ok
 pend:∀p∈ps,DStep.alloc p.i∈S0∧p.i∉rest.map stepIdx∧(m0.next≤p.b∧p.b<nm)∧(Dn D p.i→Made P ι m w w0.heap.size p)
 dist:∀p∈ps,∀q∈ps,p.i≠q.i→p.b≠q.b∧(Dn D p.i→∀pl ql,ι p.b=some pl→ι q.b=some ql→pl.blk≠ql.blk)
 once:(ps.map Pend.i).Nodup
 names:(m0.next≤nm∧nm≤top∧top≤m.next)∧∀c,nm≤c→c<top→ι c=none
section
variable {D:Array Bool} {rest:List DStep} {ι:Inj} {fr:Fr} {m:Mem} {top nm:Nat} {ps:List Pend} {a:Act} {w:World} (hO:OrdOk ops S0)
include hO
theorem same_step {s s':DStep} (h:s∈S0) (h':s'∈S0) (e:stepIdx s=stepIdx s'):s=s':=by
 have key:∀ {l:List DStep},(l.map stepIdx).Nodup→s∈l→s'∈l→s=s':=by
  intro l
  induction l with
  |nil=>intro _ h;cases h
  |cons x l ih=>
   intro hn h1 h2
   have hn:=List.nodup_cons.1 (by simpa using hn:(stepIdx x::l.map stepIdx).Nodup)
   rcases List.mem_cons.1 h1 with e1|h3
   ·rcases List.mem_cons.1 h2 with e2|h4
    ·rw[e1,e2]
    ·exact absurd (List.mem_map.2 ⟨s',h4,by rw[←e,e1]⟩) hn.1
   ·rcases List.mem_cons.1 h2 with e2|h4
    ·exact absurd (List.mem_map.2 ⟨s,h3,by rw[e,e2]⟩) hn.1
    ·exact ih hn.2 h3 h4
 exact key hO.nodup h h'
theorem Inv.seen (hI:Inv P g call ops S0 mask ι0 m0 w0 top D rest ι fr m nm ps a w) {i:Nat} {o:Oper} (hi:ops[i]? =some o) (hp:∀e∈o.after,Region.binds .any e=true→Dn D e.on):Seen P ι fr a (looks ops o):=by
 refine⟨hI.size,hI.ng,fun t x ht hx=>?_⟩
 rcases hI.val t x hx with⟨s,⟨h1,h2,h3,h4⟩,h5⟩|h
 ·exfalso
  unfold dstAt at h5
  cases ho:ops[stepIdx s]? with
  |none=>rw[ho] at h5;cases h5
  |some oj=>
   rw[ho] at h5
   have:=hO.seen s h1 h2 i o oj t hi ho h5 ht
   exact h4 (anc_done (D:=Dn D) hO.back hI.closed i hi hp this)
 ·exact h
theorem Inv.ancD (hI:Inv P g call ops S0 mask ι0 m0 w0 top D rest ι fr m nm ps a w) {i j:Nat} {o:Oper} (hi:ops[i]? =some o) (hp:∀e∈o.after,Region.binds .any e=true→Dn D e.on) (h:anc (masks ops) i j=true):Dn D j:=
 anc_done (D:=Dn D) hO.back hI.closed i hi hp h
omit hO in
theorem chkOne_agree {j:Nat} {fr':Fr} (hng:fr'.ng=fr.ng) (h:∀oj d,ops[j]? =some oj→oj.dst=some d→fr'.find d=fr.find d∧∀t,Operand.tmp t∈looks ops oj→fr'.find t=fr.find t):chkOne g call ops j fr' m=chkOne g call ops j fr m:=by
 unfold chkOne
 cases hj:ops[j]? with
 |none=>rfl
 |some oj=>
  show optK 0 oj.dst _=optK 0 oj.dst _
  cases hd:oj.dst with
  |none=>rfl
  |some d=>
   obtain⟨h1,h2⟩:=h oj d hj hd
   have e:∀f,operV g call ops oj fr' m f=operV g call ops oj fr m f:=fun f=>operV_agree ⟨hng,h2⟩
   show fr'.getK d _=fr.getK d _
   rw[Fr.getK_eq,Fr.getK_eq,h1]
   simp only[e]
omit hO in
theorem chkA_agree {p:Pend} {fr':Fr} (hng:fr'.ng=fr.ng) (h:∀oj d,ops[p.i]? =some oj→oj.dst=some d→fr'.find d=fr.find d∧∀t,Operand.tmp t∈looks ops oj→fr'.find t=fr.find t):chkA g ops p fr'=chkA g ops p fr:=by
 unfold chkA
 cases hj:ops[p.i]? with
 |none=>rfl
 |some oj=>
  show optK 0 oj.dst _=optK 0 oj.dst _
  cases hd:oj.dst with
  |none=>rfl
  |some d=>
   obtain⟨h1,h2⟩:=h oj d hj hd
   have e:∀f,allocOf oj.op g fr' f=allocOf oj.op g fr f:=fun f=>allocOf_agree ⟨hng,fun t ht=>h2 t (List.mem_append_left _ ht)⟩
   show fr'.getK d _=fr.getK d _
   rw[Fr.getK_eq,Fr.getK_eq,h1]
   simp only[e]
omit hO in
theorem find_cons {d:Nat} {v:AV} {t:Nat}:(⟨.cons d v fr.log,fr.t,fr.n,fr.ng⟩:Fr).find t=if d=t then some v else fr.find t:=by
 simp only[Fr.find,Log.find]
 split<;>simp
theorem Inv.hoist {s:DStep} (hI:Inv P g call ops S0 mask ι0 m0 w0 top D (s::rest) ι fr m nm ps a w) (hs:hoistStep s=true) {o:Oper} {d:Tmp} (ho:ops[stepIdx s]? =some o) (hd:o.dst=some d) {v:AV} {nm':Nat} {ps':List Pend} (hlt:d<fr.n)
  (hm:nm'=nm∧ps'=ps∧(∃j,s=.pure j)∨∃x k,nm'=nm+1∧nm<top∧s=.alloc (stepIdx s)∧ps'=⟨stepIdx s,nm,x,k⟩::ps∧chkA g ops ⟨stepIdx s,nm,x,k⟩ ⟨.cons d v fr.log,fr.t,fr.n,fr.ng⟩=.ok)
  (hp:∀j,s=.pure j→chkOne g call ops j ⟨.cons d v fr.log,fr.t,fr.n,fr.ng⟩ m=.ok):
  Inv P g call ops S0 mask ι0 m0 w0 top D rest ι ⟨.cons d v fr.log,fr.t,fr.n,fr.ng⟩ m nm' ps' a w:=by
 obtain⟨pre,hpre⟩:=hI.split
 have hsS:s∈S0:=by rw[hpre];simp
 have hnD:¬Dn D (stepIdx s):=fun h=>hI.inB _ h (by simp)
 have hnr:stepIdx s∉rest.map stepIdx:=by
  have:=hO.nodup
  rw[hpre] at this
  simp only[List.map_append,List.map_cons] at this
  exact(List.nodup_cons.1 (List.nodup_append.1 this).2.1).1
 have hW:∀ {s'},Waits S0 D rest s'→s'=s∨(Waits S0 D (s::rest) s'∧stepIdx s'≠stepIdx s):=fun {s'} ⟨h1,h2,h3,h4⟩=>by
  by_cases e:stepIdx s'=stepIdx s
  ·exact .inl (same_step hO h1 hsS e)
  ·exact .inr ⟨⟨h1,h2,by simpa[e] using h3,h4⟩,e⟩
 have hW':∀ {s'},Waits S0 D (s::rest) s'→Waits S0 D rest s':=fun {s'} ⟨h1,h2,h3,h4⟩=>⟨h1,h2,fun h=>h3 (List.mem_cons_of_mem _ h),h4⟩
 have hfree:∀ {s'},Waits S0 D (s::rest) s'→stepIdx s'≠stepIdx s→∀oj d',ops[stepIdx s']? =some oj→oj.dst=some d'→(⟨.cons d v fr.log,fr.t,fr.n,fr.ng⟩:Fr).find d'=fr.find d'∧
   ∀t,Operand.tmp t∈looks ops oj→(⟨.cons d v fr.log,fr.t,fr.n,fr.ng⟩:Fr).find t=fr.find t:=fun {s'} ⟨h1,h2,h3,h4⟩ hne oj d' hj hd'=>by
  have hpre':s'∈pre:=by
   rw[hpre] at h1
   rcases List.mem_append.1 h1 with h|h
   ·exact h
   ·exact absurd (List.mem_map.2 ⟨_,h,rfl⟩) h3
  refine⟨?_,fun t ht=>?_⟩
  ·rw[find_cons,if_neg]
   intro e
   subst e
   exact hO.uniq s hsS hs (stepIdx s') oj o d hne hj ho hd hd'
  ·rw[find_cons,if_neg]
   intro e
   subst e
   have:=(hO.free pre s rest hpre s' hpre' h2 o oj d ho hj hd ht).1
   rw[hs] at this;cases this
 have hnn:nm≤nm':=by rcases hm with⟨rfl,_⟩|⟨_,_,rfl,_⟩<;>omega
 have hps:∀p∈ps,p∈ps':=fun p hp=>by rcases hm with⟨_,rfl,_⟩|⟨_,_,_,_,_,rfl,_⟩<;>simp[hp]
 refine⟨hI.step,hI.defs,hI.size,hI.ng,fun k x hx=>hI.masked k x hx,fun t x hx=>?_,⟨pre++[s],by simp[hpre]⟩,hI.dsize,hI.closed,fun x hx h=>hI.inB x hx (List.mem_cons_of_mem _ h),fun s' h1 h2 h3=>hI.effs s' h1 h2 ?_,fun t x hx=>?_,fun j hj=>?_,fun j hj=>?_,fun p hp'=>?_,?_,?_,?_⟩
 ·rw[find_cons] at hx
  split at hx
  ·rename_i e;subst e;exact hlt
  ·exact hI.low t x hx
 ·rw[List.map_cons,List.mem_cons,not_or]
  refine⟨fun e=>?_,h3⟩
  have:=same_step hO h1 hsS e
  subst this
  rw[hs] at h2
  cases h2
 ·rw[find_cons] at hx
  split at hx
  ·rename_i e;subst e
   exact .inl ⟨s,⟨hsS,hs,hnr,hnD⟩,by rw[dstAt_of ho];exact hd⟩
  ·rcases hI.val t x hx with⟨s',h1,h2⟩|h
   ·exact .inl ⟨s',hW' h1,h2⟩
   ·exact .inr h
 ·rcases hW hj with e|⟨h1,h2⟩
  ·exact hp j e.symm
  ·rw[chkOne_agree (fr:=fr) (fr':=⟨.cons d v fr.log,fr.t,fr.n,fr.ng⟩) (j:=j) rfl (fun oj d' hj hd'=>hfree h1 h2 oj d' hj hd')];exact hI.pures j h1
 ·rcases hW hj with e|⟨h1,h2⟩
  ·rcases hm with⟨_,_,j',e2⟩|⟨x,k,rfl,hlt',e2,rfl,hc⟩
   ·rw[←e] at e2;cases e2
   ·refine⟨_,List.mem_cons_self ..,?_,hI.names.2 nm (Nat.le_refl _) hlt',hc⟩
    rw[←e];rfl
  ·obtain⟨p,p1,p2,p3,p6⟩:=hI.allocs j h1
   refine⟨p,hps p p1,p2,p3,?_⟩
   subst p2
   rw[chkA_agree (fr:=fr) (fr':=⟨.cons d v fr.log,fr.t,fr.n,fr.ng⟩) (p:=p) rfl (fun oj d' hj hd'=>hfree h1 h2 oj d' hj hd')];exact p6
 ·have old:p∈ps→DStep.alloc p.i∈S0∧p.i∉rest.map stepIdx∧(m0.next≤p.b∧p.b<nm')∧(Dn D p.i→Made P ι m w w0.heap.size p):=fun h=>by
   obtain⟨h1,h2,⟨h3,h3'⟩,h4⟩:=hI.pend p h
   exact⟨h1,fun h=>h2 (List.mem_cons_of_mem _ h),⟨h3,by omega⟩,h4⟩
  rcases hm with⟨_,rfl,_⟩|⟨x,k,rfl,hlt',e2,rfl,hc⟩
  ·exact old hp'
  ·rcases List.mem_cons.1 hp' with rfl|hp'
   ·exact⟨e2▸hsS,hnr,⟨hI.names.1.1,by simp⟩,fun h=>absurd h hnD⟩
   ·exact old hp'
 ·rcases hm with⟨_,rfl,_⟩|⟨x,k,rfl,hlt',e2,rfl,hc⟩
  ·exact hI.dist
  ·intro p hp1 q hq1 hne
   rcases List.mem_cons.1 hp1 with rfl|hp1<;>rcases List.mem_cons.1 hq1 with rfl|hq1
   ·exact absurd rfl hne
   ·exact⟨by have:=(hI.pend q hq1).2.2.1.2;simp;omega,fun h=>absurd h hnD⟩
   ·refine⟨by have:=(hI.pend p hp1).2.2.1.2;simp;omega,fun _ pl ql _ hq=>?_⟩
    simp only at hq
    rw[hI.names.2 nm (Nat.le_refl _) hlt'] at hq;cases hq
   ·exact hI.dist p hp1 q hq1 hne
 ·rcases hm with⟨_,rfl,_⟩|⟨x,k,rfl,hlt',e2,rfl,hc⟩
  ·exact hI.once
  ·simp only[List.map_cons]
   refine List.nodup_cons.2 ⟨fun h=>?_,hI.once⟩
   obtain⟨q,q1,q2⟩:=List.mem_map.1 h
   exact(hI.pend q q1).2.1 (by simp[q2])
 ·have:=hI.names
  rcases hm with⟨rfl,_⟩|⟨x,k,rfl,hlt',_⟩
  ·exact this
  ·exact⟨⟨by omega,by omega,this.1.2.2⟩,fun c h1 h2=>this.2 c (by omega) h2⟩
end
end
end Go.AM
end
section
namespace Go.AM
theorem T.singleK_total {α:Type} {a:α} {key:Nat}:∀(d p:Nat),∃r,∀f:T α→R,T.singleK a key d p f=f r
 |0,p=>⟨_,fun f=>rfl⟩
 |d+1,p=>by
  obtain⟨r,h⟩:=T.singleK_total (a:=a) (key:=key) d (Nat.div p 2)
  by_cases e:Nat.mod p 2=0
  ·refine⟨.node r (.nil d),fun f=>?_⟩
   show(Nat.rec (motive:=fun _=>R) (T.singleK a key d (Nat.div p 2) fun t=>f (T.node t (T.nil d))) (fun _ _=>T.singleK a key d (Nat.div p 2) fun t=>f (T.node (T.nil d) t)) (Nat.mod p 2):R)=_
   rw[nat_rec_bit,if_pos e,h]
  ·refine⟨.node (.nil d) r,fun f=>?_⟩
   show(Nat.rec (motive:=fun _=>R) (T.singleK a key d (Nat.div p 2) fun t=>f (T.node t (T.nil d))) (fun _ _=>T.singleK a key d (Nat.div p 2) fun t=>f (T.node (T.nil d) t)) (Nat.mod p 2):R)=_
   rw[nat_rec_bit,if_neg e,h]
theorem T.setK_total {α:Type} (t:T α) (k:Nat) (a:α):∃r,∀f:T α→R,t.setK k a f=f r:=by
 suffices H:∀(t:T α) (p:Nat),∃r,∀f:T α→R,(T.rec (motive:=fun _=>Nat→Nat→α→(T α→R)→R) (fun d p k a f=>T.singleK a k d p f)
  (fun _ _ _ k a f=>f (T.leaf k a))
  (fun l r ihl ihr p k a f=>Nat.rec (motive:=fun _=>R) (ihl (Nat.div p 2) k a fun l=>f (T.node l r)) (fun _ _=>ihr (Nat.div p 2) k a fun r=>f (T.node l r)) (Nat.mod p 2)) t p k a f:R)=f r from H t k
 intro t
 induction t with
 |nil d=>intro p;exact T.singleK_total d p
 |leaf key b=>intro p;exact⟨_,fun f=>rfl⟩
 |node l r ihl ihr=>
  intro p
  by_cases e:Nat.mod p 2=0
  ·obtain⟨x,h⟩:=ihl (Nat.div p 2)
   refine⟨.node x r,fun f=>?_⟩
   show(Nat.rec (motive:=fun _=>R) _ (fun _ _=>_) (Nat.mod p 2):R)=_
   rw[nat_rec_bit,if_pos e,h]
  ·obtain⟨x,h⟩:=ihr (Nat.div p 2)
   refine⟨.node l x,fun f=>?_⟩
   show(Nat.rec (motive:=fun _=>R) _ (fun _ _=>_) (Nat.mod p 2):R)=_
   rw[nat_rec_bit,if_neg e,h]
theorem insK_total {ins:List Nat}:∀(ps:List Pend) (m:Mem),∃ps' m',∀k:List Pend→Mem→R,insK ins ps m k=k ps' m'
 |[],m=>⟨[],m,fun _=>rfl⟩
 |p::ps,m=>by
  cases hb:memB p.i ins with
  |true=>
   obtain⟨t,ht⟩:=T.setK_total m.t p.b p.x
   obtain⟨ps',m',h⟩:=insK_total (ins:=ins) ps ⟨m.next,t⟩
   refine⟨ps',m',fun k=>?_⟩
   show iteB (memB p.i ins) (m.t.setK p.b p.x fun t=>insK ins ps ⟨m.next,t⟩ k) (insK ins ps m fun ps m=>k (p::ps) m)=_
   rw[hb,ht,←h k];rfl
  |false=>
   obtain⟨ps',m',h⟩:=insK_total (ins:=ins) ps m
   refine⟨p::ps',m',fun k=>?_⟩
   show iteB (memB p.i ins) (m.t.setK p.b p.x fun t=>insK ins ps ⟨m.next,t⟩ k) (insK ins ps m fun ps m=>k (p::ps) m)=_
   rw[hb,←h fun ps m=>k (p::ps) m];rfl
section
variable {P:Program} {F:Fence} {n:Nat} {ops:Array Oper} {ι:Inj} {m:Mem} {fr:Fr} {a:Act} {w:World}
theorem storeB_ok {i:Nat} (h:storeB ops i=true):∃o t x y,ops[i]? =some o∧o.op=.store t x y∧o.guard=none∧o.dst=none:=by
 unfold storeB at h
 split at h
 ·rename_i o ho
  simp only[Bool.and_eq_true,Option.isNone_iff_eq_none] at h
  obtain⟨⟨h1,h2⟩,h3⟩:=h
  split at h1
  ·rename_i t x y hop
   exact⟨o,t,x,y,ho,hop,h2,h3⟩
  ·cases h1
 ·cases h
theorem store_wp {i:Nat} {o:Oper} {t:TypeId} {x y:Operand} {K:Act→World→Prop} {Q:Exit→Act→World→Prop} (ho:ops[i]? =some o) (hop:o.op=.store t x y) (hg:o.guard=none) (hd:o.dst=none) (hF:Wide F) {w':World}
  (h:(Instr.storeAt t (a.eval x) (a.eval y)).run P w=.ok () w') (hK:K a w'):wpOpIn F n P ops Q i K a w:=by
 unfold wpOpIn
 rw[ho]
 have hw:Region.wanted o (yielded ops a.tmps)=true:=by simp[Region.wanted,hg]
 simp only[hw,if_true]
 refine⟨fun _ _=>hF.fn _,?_⟩
 rw[Oper.semAt_eq _ _ _ fun c hc=>by rw[hop] at hc;cases hc]
 simp only[execOp,hop,Sem.run_bind,h,Result.andThen_ok,Sem.run_pure]
 show K (a.put o.dst undef) w'
 rw[hd]
 exact hK
theorem store_wp' {i:Nat} {o:Oper} {t:TypeId} {x y:Operand} {K:Act→World→Prop} (ho:ops[i]? =some o) (hop:o.op=.store t x y) (hg:o.guard=none) (hd:o.dst=none)
  (h:wpOpIn F n P ops (fun _ _ _=>False) i K a w):∃w',(Instr.storeAt t (a.eval x) (a.eval y)).run P w=.ok () w'∧K a w':=by
 unfold wpOpIn at h
 rw[ho] at h
 have hw:Region.wanted o (yielded ops a.tmps)=true:=by simp[Region.wanted,hg]
 simp only[hw,if_true] at h
 have h:=h.2
 rw[Oper.semAt_eq _ _ _ fun c hc=>by rw[hop] at hc;cases hc] at h
 simp only[execOp,hop,Sem.run_bind] at h
 cases hs:(Instr.storeAt t (a.eval x) (a.eval y)).run P w with
 |ok u w'=>
  rw[hs] at h
  refine⟨w',rfl,?_⟩
  have h:K (a.put o.dst undef) w':=h
  rw[hd] at h
  exact h
 |halt e w'=>
  rw[hs] at h
  exfalso
  cases e<;>exact h
theorem seen_ev {xs:List Operand} (hr:Rel P ι m w) (hs:Seen P ι fr a xs) {x:Operand} (hx:x∈xs) {k:AV→R} (h:ev x fr k=.ok):∃v,k v=.ok∧conc ι v=some (a.eval x):=by
 have e:=ev_agree (x:=x) ((part_agree (fr:=fr) (xs:=xs)).sub (fun z hz=>by simp only[List.mem_singleton] at hz;rw[hz];exact hx))
 rw[←e] at h
 exact ev_ok hr hs.part h
end
end Go.AM
end
section
namespace Go.AM
section
variable {P:Program} {F:Fence} {n:Nat} {Q:Exit→Act→World→Prop} {g:G} {call:CallF} {mask:Nat} {ops:Array Oper} {S0:List DStep} {ι0:Inj} {m0:Mem} {w0:World}
variable {D:Array Bool} {rest:List DStep} {ι:Inj} {fr:Fr} {m:Mem} {top nm:Nat} {ps:List Pend} {a:Act} {w:World} {f:Fr→Mem→R}
theorem putFr_ok {o:Oper} {d:Tmp} {v:AV} {k:Fr→R} (hd:o.dst=some d) (h:putFr fr o.dst v k=.ok):d<fr.n∧k ⟨.cons d v fr.log,fr.t,fr.n,fr.ng⟩=.ok:=by
 rw[hd] at h
 exact Fr.setK_eq h
theorem Inv.norm (hO:OrdOk ops S0):∀ {rest:List DStep} {fr:Fr} {nm:Nat} {ps:List Pend},Inv P g call ops S0 mask ι0 m0 w0 top D rest ι fr m nm ps a w→drawS g call ops top rest fr m nm ps f=.ok→
  ∃rest' fr' nm' ps',Inv P g call ops S0 mask ι0 m0 w0 top D rest' ι fr' m nm' ps' a w∧drawS g call ops top rest' fr' m nm' ps' f=.ok∧∀s r,rest'=s::r→hoistStep s=false
 |[],fr,nm,ps,hI,h=>⟨[],fr,nm,ps,hI,h,fun _ _ e=>by cases e⟩
 | .eff i ins chk::rest,fr,nm,ps,hI,h=>⟨_,fr,nm,ps,hI,h,fun _ _ e=>by cases e;rfl⟩
 | .two i j ins chk::rest,fr,nm,ps,hI,h=>⟨_,fr,nm,ps,hI,h,fun _ _ e=>by cases e;rfl⟩
 | .pure i::rest,fr,nm,ps,hI,h=>by
  obtain⟨pre,hpre⟩:=hI.split
  have hsS:DStep.pure i∈S0:=by rw[hpre];simp
  obtain⟨o,d,ho,hp,hd⟩:=hO.pureOk i hsS
  obtain⟨o',h1,h2⟩:=optK_ok (h:optK 0 ops[i]? (fun o=>outK (operV g call ops o fr m R.out) fun v=>putFr fr o.dst v fun fr=>andR (chkOne g call ops i fr m) (drawS g call ops top rest fr m nm ps f))=.ok)
  rw[ho] at h1;injection h1 with h1;subst h1
  obtain⟨v,h3⟩:=outK_ok h2
  obtain⟨h4,h5⟩:=putFr_ok hd h3
  obtain⟨h6,h7⟩:=andR_ok h5
  have hI':=hI.hoist (s:=.pure i) hO rfl ho hd (v:=v) (nm':=nm) (ps':=ps) h4 (.inl ⟨rfl,rfl,i,rfl⟩) (fun j e=>by injection e with e;subst e;exact h6)
  exact Inv.norm hO hI' h7
 | .alloc i::rest,fr,nm,ps,hI,h=>by
  obtain⟨pre,hpre⟩:=hI.split
  have hsS:DStep.alloc i∈S0:=by rw[hpre];simp
  obtain⟨o,d,ho,hd,hgd⟩:=hO.allocOk i hsS
  obtain⟨o',h1,h2⟩:=optK_ok (h:optK 0 ops[i]? (fun o=>ifB 0 (Nat.ble (Nat.succ nm) top) (allocOf o.op g fr fun x k=>putFr fr o.dst (mkOf k nm) fun fr=>forceN (Nat.succ nm) fun nx=>andR (chkA g ops ⟨i,nm,x,k⟩ fr) (drawS g call ops top rest fr m nx (⟨i,nm,x,k⟩::ps) f)))=.ok)
  rw[ho] at h1;injection h1 with h1;subst h1
  obtain⟨h3,h4⟩:=ifB_ok h2
  obtain⟨x,k,h5⟩:=allocOf_ex h4
  obtain⟨h6,h7⟩:=putFr_ok hd h5
  rw[forceN_eq] at h7
  obtain⟨h8,h9⟩:=andR_ok h7
  have hI':=hI.hoist (s:=.alloc i) hO rfl ho hd (v:=mkOf k nm) (nm':=nm+1) (ps':=⟨i,nm,x,k⟩::ps) h6 (.inr ⟨x,k,rfl,Nat.le_of_ble_eq_true h3,rfl,rfl,h8⟩) (fun j e=>by cases e)
  exact Inv.norm hO hI' h9
theorem dn_set {j x:Nat} (hj:j<D.size):Dn (D.setIfInBounds j true) x↔x=j∨Dn D x:=by
 unfold Dn
 by_cases e:x=j
 ·subst e;simp[hj]
 ·rw[getD_set_ne false (Ne.symm e)];simp[e]
theorem Inv.runPure (hO:OrdOk ops S0) (hg:GOk P g) (hflat:∀t,g.isFlat t=true→Flat P t) (hc:CallOk P call) (hF:Wide F) (hI:Inv P g call ops S0 mask ι0 m0 w0 top D rest ι fr m nm ps a w) {j:Nat} (hW:Waits S0 D rest (.pure j))
  (hp:∀o,ops[j]? =some o→∀e∈o.after,Region.binds .any e=true→Dn D e.on):wpOpIn F n P ops Q j (fun a' w'=>∃ι',Inv P g call ops S0 mask ι0 m0 w0 top (D.setIfInBounds j true) rest ι' fr m nm ps a' w') a w:=by
 obtain⟨o,d,ho,hpo,hd⟩:=hO.pureOk j hW.1
 have hjs:j<D.size:=by rw[hI.dsize];exact lt_of_get ho
 obtain⟨d',v,hd',hv,key⟩:=chkOne_ok (n:=n) (Q:=Q) hg hflat hc hF ho hpo hI.step.rel (hI.seen hO ho (hp o ho)) (hI.pures j hW)
 rw[hd] at hd';injection hd' with hd';subst hd'
 refine wpOpIn_mono (fun a' w' ⟨V,ι',e,hst,hV⟩=>?_) key
 subst e
 refine⟨ι',?_⟩
 have hWD:∀ {s},Waits S0 (D.setIfInBounds j true) rest s→Waits S0 D rest s∧stepIdx s≠j:=fun {s} ⟨h1,h2,h3,h4⟩=>⟨⟨h1,h2,h3,fun h=>h4 ((dn_set hjs).2 (.inr h))⟩,fun h=>h4 ((dn_set hjs).2 (.inl h))⟩
 have hdn:d<a.tmps.size:=by rw[hI.size];exact hI.low d v hv
 refine⟨hI.step.trans hst,hI.defs.step hst,by simpa[Act.put] using hI.size,hI.ng,hI.masked,hI.low,hI.split,by simpa using hI.dsize,fun x o' hx hox e he hb=>(dn_set hjs).2 (.inr ?_),fun x hx=>?_,fun s h1 h2 h3=>(dn_set hjs).2 (.inr (hI.effs s h1 h2 h3)),fun t x hx=>?_,
  fun j' hj'=>hI.pures j' (hWD hj').1,fun j' hj'=>?_,fun p hp'=>?_,fun p hp1 q hq1 hne=>?_,hI.once,⟨hI.names.1,fun c h1 h2=>hst.names c (by have:=hI.names.1;omega) (hI.names.2 c h1 h2)⟩⟩
 ·rcases(dn_set hjs).1 hx with rfl|hx
  ·exact hp o' hox e he hb
  ·exact hI.closed x o' hx hox e he hb
 ·rcases(dn_set hjs).1 hx with rfl|hx
  ·exact hW.2.2.1
  ·exact hI.inB x hx
 ·by_cases et:t=d
  ·subst et
   rw[hv] at hx;injection hx with hx;subst hx
   exact .inr ⟨V,hV,by simp[Act.put,hdn]⟩
  ·rcases hI.val t x hx with⟨s,h1,h2⟩|⟨W,h1,h2⟩
   ·refine .inl ⟨s,⟨h1.1,h1.2.1,h1.2.2.1,fun h=>?_⟩,h2⟩
    rcases(dn_set hjs).1 h with h|h
    ·rw[h,dstAt_of ho,hd] at h2;injection h2 with h2;exact et h2.symm
    ·exact h1.2.2.2 h
   ·exact .inr ⟨W,conc_mono hst.le h1,by simp only[Act.put];rw[Array.getElem?_setIfInBounds_ne (fun h=>et h.symm)];exact h2⟩
 ·obtain⟨p,p1,p2,p3,p4⟩:=hI.allocs j' (hWD hj').1
  exact⟨p,p1,p2,hst.names _ (by have:=(hI.pend p p1).2.2.1;have:=hI.names.1;omega) p3,p4⟩
 ·obtain⟨h1,h2,h3,h4⟩:=hI.pend p hp'
  refine⟨h1,h2,h3,fun h=>?_⟩
  rcases(dn_set hjs).1 h with h|h
  ·have:=same_step hO h1 hW.1 h
   cases this
  ·exact(h4 h).step hst
 ·refine⟨(hI.dist p hp1 q hq1 hne).1,fun h pl ql k1 k2=>?_⟩
  obtain⟨h1,_,_,h4⟩:=hI.pend p hp1
  have hDp:Dn D p.i:=by
   rcases(dn_set hjs).1 h with h|h
   ·have:=same_step hO h1 hW.1 h
    cases this
   ·exact h
  obtain⟨pl',l1,l2,l3,l4⟩:=h4 hDp
  have:pl=pl':=by
   have:=hst.le _ _ l1
   rw[k1] at this;injection this
  subst this
  cases hq:ι q.b with
  |none=>
   have:=hst.names _ (by have:=(hI.pend q hq1).2.2.1;have:=hI.names.1;omega) hq
   rw[k2] at this;cases this
  |some ql'=>
   have e:=hst.le _ _ hq
   rw[k2] at e;injection e with e;subst e
   exact(hI.dist p hp1 q hq1 hne).2 hDp pl ql l1 hq
theorem Inv.runAlloc (hO:OrdOk ops S0) (hg:GOk P g) (hF:Wide F) (hI:Inv P g call ops S0 mask ι0 m0 w0 top D rest ι fr m nm ps a w) {j:Nat} (hW:Waits S0 D rest (.alloc j))
  (hp:∀o,ops[j]? =some o→∀e∈o.after,Region.binds .any e=true→Dn D e.on):wpOpIn F n P ops Q j (fun a' w'=>∃ι',Inv P g call ops S0 mask ι0 m0 w0 top (D.setIfInBounds j true) rest ι' fr m nm ps a' w') a w:=by
 obtain⟨o,d,ho,hd,hgd⟩:=hO.allocOk j hW.1
 have hjs:j<D.size:=by rw[hI.dsize];exact lt_of_get ho
 obtain⟨p0,p1,p2,p3,p4⟩:=hI.allocs j hW
 subst p2
 obtain⟨o',h1,h2⟩:=optK_ok p4
 rw[ho] at h1;injection h1 with h1;subst h1
 obtain⟨d',h3,h4⟩:=optK_ok h2
 rw[hd] at h3;injection h3 with h3;subst h3
 obtain⟨v,hv,h5⟩:=Fr.getK_ok h4
 obtain⟨h6,h7⟩:=ifB_ok h5
 obtain⟨_,h8⟩:=ifB_ok h7
 have hve:=eqB_ok 5 _ _ h6
 subst hve
 have hs:=hI.seen hO ho (hp o ho)
 rw[←allocOf_agree (part_agree (xs:=looks ops o) |>.sub fun x hx=>List.mem_append_left _ hx)] at h8
 obtain⟨sm,hsm,x,k,Ob,MK,e1,e2,e3,e4⟩:=allocOf_ok hg hI.step.rel hs.part h8
 obtain⟨h9,h10⟩:=ifB_ok e1
 have hx:=blkEqB_ok h9
 have hk:=akEqB_ok (ifB_ok h10).1
 subst hx hk
 unfold wpOpIn
 rw[ho]
 have hw:Region.wanted o (yielded ops a.tmps)=true:=by simp[Region.wanted,hgd]
 simp only[hw,if_true]
 have hnd:∀c,o.op≠.defer c:=fun c hc=>by rw[hc] at h8;cases h8
 refine⟨fun _ _=>hF.fn _,?_⟩
 rw[Oper.semAt_eq _ _ _ hnd,hsm]
 simp only[Sem.run_bind,e2,Result.andThen_ok,Sem.run_pure]
 have hnm:=(hI.pend p0 p1).2.2.1
 have hnn:=hI.names.1
 have hlt:p0.b<m.next:=by omega
 have hle:=Inj.le_set (p:=⟨w.heap.size,0,0,0⟩) p3
 have hself:(ι.set p0.b ⟨w.heap.size,0,0,0⟩) p0.b=some ⟨w.heap.size,0,0,0⟩:=by simp[Inj.set]
 have hoth:∀b,b≠p0.b→(ι.set p0.b ⟨w.heap.size,0,0,0⟩) b=ι b:=fun b hb=>by simp[Inj.set,hb]
 have hstep:=hI.step.late (p:=⟨w.heap.size,0,0,0⟩) (o:=Ob) p3 hlt hnm.1
 have hkeep:∀k,k<w.heap.size→(w.heap.push Ob)[k]? =w.heap[k]? :=fun k hk=>by rw[Array.getElem?_push,if_neg (by omega)]
 have hocc:∀k,occ (ι.set p0.b ⟨w.heap.size,0,0,0⟩) m k→occ ι m k:=fun k ⟨c,y,q,hy,hq,e⟩=>by
  refine⟨c,y,q,hy,?_,e⟩
  obtain⟨q',k1,_⟩:=hI.step.rel.blk c y hy
  rw[hle _ _ k1] at hq
  rw[k1,hq]
 have hoccN:∀k,occ ι m k→k<w.heap.size:=fun k ⟨c,y,q,hy,hq,e⟩=>by
  obtain⟨q',k1,k2⟩:=hI.step.rel.blk c y hy
  rw[hq] at k1;injection k1 with k1;subst k1
  rw[←e];exact blk_lt k2
 have hWD:∀ {s},Waits S0 (D.setIfInBounds p0.i true) rest s→Waits S0 D rest s∧stepIdx s≠p0.i:=fun {s} ⟨h1,h2,h3,h4⟩=>⟨⟨h1,h2,h3,fun h=>h4 ((dn_set hjs).2 (.inr h))⟩,fun h=>h4 ((dn_set hjs).2 (.inl h))⟩
 have hdn:d<a.tmps.size:=by rw[hI.size];exact hI.low d _ hv
 have hpe:∀p∈ps,p.i=p0.i→p=p0:=fun p hp' e=>by
  have:=hI.once
  have key:∀ {l:List Pend},(l.map Pend.i).Nodup→p∈l→p0∈l→p=p0:=by
   intro l
   induction l with
   |nil=>intro _ h;cases h
   |cons y l ih=>
    intro hn g1 g2
    have hn:=List.nodup_cons.1 (by simpa using hn:(y.i::l.map Pend.i).Nodup)
    rcases List.mem_cons.1 g1 with q1|g3
    ·rcases List.mem_cons.1 g2 with q2|g4
     ·rw[q1,q2]
     ·exact absurd (List.mem_map.2 ⟨p0,g4,by rw[←e,q1]⟩) hn.1
    ·rcases List.mem_cons.1 g2 with q2|g4
     ·exact absurd (List.mem_map.2 ⟨p,g3,by rw[e,q2]⟩) hn.1
     ·exact ih hn.2 g3 g4
  exact key this hp' p1
 refine⟨ι.set p0.b ⟨w.heap.size,0,0,0⟩,hstep,by rw[put_defers];exact hI.defs.ext fun r ob hr' ho'=>⟨hkeep r (heap_lt hr'),fun h=>ho' (hocc r h)⟩,by rw[hd];simpa[Act.put] using hI.size,hI.ng,hI.masked,hI.low,hI.split,by simpa using hI.dsize,
  fun x o' hx hox e he hb=>(dn_set hjs).2 (.inr ?_),fun x hx=>?_,fun s h1 h2 h3=>(dn_set hjs).2 (.inr (hI.effs s h1 h2 h3)),fun t x hx=>?_,fun j' hj'=>hI.pures j' (hWD hj').1,fun j' hj'=>?_,fun p hp'=>?_,fun p hp1 q hq1 hne=>?_,hI.once,⟨hI.names.1,fun c h1 h2=>?_⟩⟩
 ·rcases(dn_set hjs).1 hx with rfl|hx
  ·exact hp o' hox e he hb
  ·exact hI.closed x o' hx hox e he hb
 ·rcases(dn_set hjs).1 hx with rfl|hx
  ·exact hW.2.2.1
  ·exact hI.inB x hx
 ·by_cases et:t=d
  ·subst et
   rw[hv] at hx;injection hx with hx;subst hx
   exact .inr ⟨MK w.heap.size,e4 _ _ _ hself,by rw[hd];simp[Act.put,hdn]⟩
  ·rcases hI.val t x hx with⟨s,h1,h2⟩|⟨W,h1,h2⟩
   ·refine .inl ⟨s,⟨h1.1,h1.2.1,h1.2.2.1,fun h=>?_⟩,h2⟩
    rcases(dn_set hjs).1 h with h|h
    ·rw[h,dstAt_of ho,hd] at h2;injection h2 with h2;exact et h2.symm
    ·exact h1.2.2.2 h
   ·exact .inr ⟨W,conc_mono hle h1,by rw[hd];simp only[Act.put];rw[Array.getElem?_setIfInBounds_ne (fun h=>et h.symm)];exact h2⟩
 ·obtain⟨q,q1,q2,q3,q4⟩:=hI.allocs j' (hWD hj').1
  have hne:q.i≠p0.i:=by rw[q2];exact(hWD hj').2
  exact⟨q,q1,q2,by rw[hoth _ (hI.dist q q1 p0 p1 hne).1];exact q3,q4⟩
 ·obtain⟨h1,h2,h3,h4⟩:=hI.pend p hp'
  refine⟨h1,h2,h3,fun h=>?_⟩
  by_cases e:p.i=p0.i
  ·have:=hpe p hp' e
   subst this
   exact⟨_,hself,e3 _ _ _ hle (by simp),by have:=hI.step.size;exact this,fun ho'=>by have:=hoccN _ (hocc _ ho');simp at this⟩
  ·have hD:Dn D p.i:=((dn_set hjs).1 h).resolve_left e
   obtain⟨pl,l1,l2,l3,l4⟩:=h4 hD
   exact⟨pl,hle _ _ l1,(l2.mono hle).at (hkeep _ (blk_lt l2)),l3,fun h=>l4 (hocc _ h)⟩
 ·refine⟨(hI.dist p hp1 q hq1 hne).1,fun h pl ql k1 k2=>?_⟩
  have hnb:=(hI.dist p hp1 q hq1 hne).1
  have plc:∀r∈ps,r.i≠p0.i→∀rl,(ι.set p0.b ⟨w.heap.size,0,0,0⟩) r.b=some rl→ι r.b=some rl:=fun r hr1 hr2 rl hr3=>by rw[hoth _ (hI.dist r hr1 p0 p1 hr2).1] at hr3;exact hr3
  by_cases ep:p.i=p0.i
  ·have:=hpe p hp1 ep
   subst this
   rw[hself] at k1;injection k1 with k1;subst k1
   have k3:=plc q hq1 (fun e=>hne e.symm) ql k2
   have hDq:Dn D q.i∨¬Dn D q.i:=Classical.em _
   rcases hDq with hDq|hDq
   ·obtain⟨ql',l1,l2,_⟩:=(hI.pend q hq1).2.2.2 hDq
    rw[k3] at l1;injection l1 with l1;subst l1
    have:=blk_lt l2
    simp;omega
   ·have hWq:Waits S0 D rest (.alloc q.i):=⟨(hI.pend q hq1).1,rfl,(hI.pend q hq1).2.1,hDq⟩
    obtain⟨r,r1,r2,r3,_⟩:=hI.allocs q.i hWq
    have:r=q:=by
     have key:∀ {l:List Pend},(l.map Pend.i).Nodup→r∈l→q∈l→r=q:=by
      intro l
      induction l with
      |nil=>intro _ h;cases h
      |cons y l ih=>
       intro hn g1 g2
       have hn:=List.nodup_cons.1 (by simpa using hn:(y.i::l.map Pend.i).Nodup)
       rcases List.mem_cons.1 g1 with q1|g3
       ·rcases List.mem_cons.1 g2 with q2|g4
        ·rw[q1,q2]
        ·exact absurd (List.mem_map.2 ⟨q,g4,by rw[←r2,q1]⟩) hn.1
       ·rcases List.mem_cons.1 g2 with q2|g4
        ·exact absurd (List.mem_map.2 ⟨r,g3,by rw[r2,q2]⟩) hn.1
        ·exact ih hn.2 g3 g4
     exact key hI.once r1 hq1
    subst this
    rw[k3] at r3;cases r3
  ·have hDp:Dn D p.i:=((dn_set hjs).1 h).resolve_left ep
   have k1':=plc p hp1 ep pl k1
   by_cases eq:q.i=p0.i
   ·have:=hpe q hq1 eq
    subst this
    rw[hself] at k2;injection k2 with k2;subst k2
    obtain⟨pl',l1,l2,_⟩:=(hI.pend p hp1).2.2.2 hDp
    rw[k1'] at l1;injection l1 with l1;subst l1
    have:=blk_lt l2
    simp;omega
   ·exact(hI.dist p hp1 q hq1 hne).2 hDp pl ql k1' (plc q hq1 eq ql k2)
 ·rw[hoth c (by omega)];exact hI.names.2 c h1 h2
theorem Inv.runEff (hO:OrdOk ops S0) (hg:GOk P g) (hflat:∀t,g.isFlat t=true→Flat P t) (hc:CallOk P call) (hF:Wide F) {i:Nat} {ins chk:List Nat} {s:DStep} (_hs:hoistStep s=false) (hsi:stepIdx s=i) (hins:∀x∈ins,anc (masks ops) i x=true) (hanew:∀pre,S0=pre++s::rest→∀j,DStep.pure j∈pre→j∈chk∨anc (masks ops) i j=true)
  (hI:Inv P g call ops S0 mask ι0 m0 w0 top D (s::rest) ι fr m nm ps a w)
  (h:insK ins ps m (fun ps m=>optK 0 ops[i]? fun o=>operV g call ops o fr m fun v m=>putFr fr o.dst v fun fr=>chkAll g call ops chk fr m (drawS g call ops top rest fr m nm ps f))=.ok) (hp:∀o,ops[i]? =some o→∀e∈o.after,Region.binds .any e=true→Dn D e.on):
  wpOpIn F n P ops Q i (fun a' w'=>∃ι' fr' m' ps',Inv P g call ops S0 mask ι0 m0 w0 top (D.setIfInBounds i true) rest ι' fr' m' nm ps' a' w'∧drawS g call ops top rest fr' m' nm ps' f=.ok) a w:=by
 obtain⟨pre,hpre⟩:=hI.split
 have hsS:s∈S0:=by rw[hpre];simp
 subst hsi
 have hnr:(stepIdx s)∉rest.map stepIdx:=by
  have:=hO.nodup
  rw[hpre] at this
  simp only[List.map_append,List.map_cons] at this
  exact(List.nodup_cons.1 (List.nodup_append.1 this).2.1).1
 have hnD:¬Dn D (stepIdx s):=fun h=>hI.inB _ h (by simp)
 have hop:∃o,ops[(stepIdx s)]? =some o:=by
  have hx:∀ {ps:List Pend} {m:Mem} {k:List Pend→Mem→R},insK ins ps m k=.ok→∃ps m,k ps m=.ok:=by
   intro ps
   induction ps with
   |nil=>intro m k h;exact⟨_,_,h⟩
   |cons p ps ih=>
    intro m k h
    have h:iteB (memB p.i ins) (putK m p.b p.x fun m=>insK ins ps m k) (insK ins ps m fun ps m=>k (p::ps) m)=.ok:=h
    rw[iteB_eq] at h
    split at h
    ·obtain⟨t',h1,_⟩:=T.setK_ok (h:m.t.setK p.b p.x (fun t=>insK ins ps ⟨m.next,t⟩ k)=.ok)
     exact ih h1
    ·obtain⟨_,_,h1⟩:=ih h;exact⟨_,_,h1⟩
  obtain⟨_,_,h1⟩:=hx h
  obtain⟨o,h2,_⟩:=optK_ok h1
  exact⟨o,h2⟩
 obtain⟨o,ho⟩:=hop
 have hpo:=hp o ho
 have his:(stepIdx s)<D.size:=by rw[hI.dsize];exact lt_of_get ho
 have hinsD:∀p∈ps,memB p.i ins=true→Dn D p.i:=fun p _ hm=>hI.ancD hO ho hpo (hins p.i (memB_iff.1 hm))
 obtain⟨m1,h1,hn1,hs1,hocc1⟩:=insK_ok h hI.step (fun p hp' hm=>(hI.pend p hp').2.2.2 (hinsD p hp' hm)) (fun p hp1 q hq1 hne hm=>(hI.dist p hp1 q hq1 hne).2 (hinsD p hp1 hm)) hI.once
 obtain⟨o',h2,h3⟩:=optK_ok h1
 rw[ho] at h2;injection h2 with h2;subst h2
 have hdefs1:DefOk w0.heap.size ι m1 w a.defers:=hI.defs.ext fun r ob hr' ho'=>⟨rfl,fun hh=>by
  rcases hocc1 r hh with hh|⟨p,_,_,pl,_,k2,k3⟩
  ·exact ho' hh
  ·subst k3;exact blk_not_deferred k2 hr'⟩
 have hmade1:∀p∈ps,memB p.i ins=false→Dn D p.i→Made P ι m1 w w0.heap.size p:=fun p hp' hm hD=>by
  obtain⟨pl,k1,k2,k3,k4⟩:=(hI.pend p hp').2.2.2 hD
  refine⟨pl,k1,k2,k3,fun hh=>?_⟩
  rcases hocc1 _ hh with hh|⟨q,q1,q2,ql,l1,l2,l3⟩
  ·exact k4 hh
  ·have hne:p.i≠q.i:=fun e=>by rw[e,q2] at hm;cases hm
   exact(hI.dist p hp' q q1 hne).2 hD pl ql k1 l1 l3.symm
 refine wpOpIn_mono (fun a' w' ⟨V,v,ι',m',e,h4,hst,hV⟩=>?_) (operV_ok (n:=n) (Q:=Q) hg hflat hc hF ho hs1.rel (hI.seen hO ho hpo) h3)
 subst e
 have hfr:∃fr',chkAll g call ops chk fr' m' (drawS g call ops top rest fr' m' nm (ps.filter fun p=>!memB p.i ins) f)=.ok∧fr'.n=fr.n∧fr'.ng=fr.ng∧fr'.masked mask∧(∀d,o.dst=some d→d<fr.n)∧
   (∀t,(o.dst≠some t→fr'.find t=fr.find t)∧(o.dst=some t→fr'.find t=some v)):=by
  cases hd:o.dst with
  |none=>
   rw[hd] at h4
   exact⟨fr,h4,rfl,rfl,hI.masked,(fun _ e=>by cases e),fun t=>⟨fun _=>rfl,(fun e=>by cases e)⟩⟩
  |some d=>
   obtain⟨k1,k2⟩:=putFr_ok hd h4
   refine⟨_,k2,rfl,rfl,fun k x hx=>hI.masked k x hx,fun d' e=>by injection e with e;subst e;exact k1,fun t=>⟨fun e=>?_,fun e=>?_⟩⟩
   ·rw[find_cons,if_neg fun h=>e (by rw[h])]
   ·injection e with e;rw[find_cons,if_pos e]
 obtain⟨fr',h5,hn',hng',hmk',hdlt,hfind⟩:=hfr
 obtain⟨h6,h7⟩:=chkAll_ok h5
 refine⟨ι',fr',m',_,?_,h6⟩
 have hle:=hst.le
 have hWD:∀ {q},Waits S0 (D.setIfInBounds (stepIdx s) true) rest q→Waits S0 D (s::rest) q∧stepIdx q≠stepIdx s:=fun {q} ⟨g1,g2,g3,g4⟩=>by
  have hne:stepIdx q≠stepIdx s:=fun h=>g4 ((dn_set his).2 (.inl h))
  exact⟨⟨g1,g2,by simp only[List.map_cons,List.mem_cons,not_or];exact⟨hne,g3⟩,fun h=>g4 ((dn_set his).2 (.inr h))⟩,hne⟩
 have hfree:∀ {q},Waits S0 D (s::rest) q→stepIdx q≠stepIdx s→∀oj d',ops[stepIdx q]? =some oj→oj.dst=some d'→fr'.find d'=fr.find d'∧∀t,Operand.tmp t∈looks ops oj→fr'.find t=fr.find t:=fun {q} hW hne oj d' hj hd'=>by
  obtain⟨g1,g2,g3,g4⟩:=hW
  have hpre':q∈pre:=by
   rw[hpre] at g1
   rcases List.mem_append.1 g1 with h|h
   ·exact h
   ·exact absurd (List.mem_map.2 ⟨_,h,rfl⟩) g3
  refine⟨(hfind d').1 fun e=>?_,fun t ht=>(hfind t).1 fun e=>?_⟩
  ·exact hO.uniq q g1 g2 (stepIdx s) o oj d' (Ne.symm hne) ho hj hd' e
  ·have:=(hO.free pre s rest hpre q hpre' g2 o oj t ho hj e ht).2
   exact g4 (hI.ancD hO ho hpo this)
 have hpf:∀ {p},p∈ps.filter (fun p=>!memB p.i ins)→p∈ps∧memB p.i ins=false:=fun {p} h=>by simpa using h
 refine⟨hs1.trans hst,by rw[put_defers];exact hdefs1.step hst,by rw[hn'];cases o.dst<;>simpa[Act.put] using hI.size,by rw[hng'];exact hI.ng,hmk',fun t x hx=>?_,⟨pre++[s],by simp[hpre]⟩,by simpa using hI.dsize,fun x o' hx hox e he hb=>(dn_set his).2 (.inr ?_),fun x hx hx'=>?_,
  fun q g1 g2 g3=>?_,fun t x hx=>?_,fun j hj=>?_,fun j hj=>?_,fun p hp'=>?_,fun p hp1 q hq1 hne=>?_,?_,⟨⟨hI.names.1.1,hI.names.1.2.1,by have:=hI.names.1.2.2;have:=hst.next;omega⟩,fun c g1 g2=>hst.names c (by have:=hI.names.1;omega) (hI.names.2 c g1 g2)⟩⟩
 ·rw[hn']
  by_cases e:o.dst=some t
  ·exact hdlt t e
  ·rw[(hfind t).1 e] at hx;exact hI.low t x hx
 ·rcases(dn_set his).1 hx with rfl|hx
  ·exact hp o' hox e he hb
  ·exact hI.closed x o' hx hox e he hb
 ·rcases(dn_set his).1 hx with rfl|hx
  ·exact hnr hx'
  ·exact hI.inB x hx (List.mem_cons_of_mem _ hx')
 ·by_cases e:stepIdx q=stepIdx s
  ·exact(dn_set his).2 (.inl e)
  ·exact(dn_set his).2 (.inr (hI.effs q g1 g2 (by simp only[List.map_cons,List.mem_cons,not_or];exact⟨e,g3⟩)))
 ·by_cases e:o.dst=some t
  ·rw[(hfind t).2 e] at hx;injection hx with hx;subst hx
   exact .inr ⟨V,hV,by rw[e];simp[Act.put,hI.size,hdlt t e]⟩
  ·rw[(hfind t).1 e] at hx
   rcases hI.val t x hx with⟨q,⟨g1,g2,g3,g4⟩,g5⟩|⟨W,g1,g2⟩
   ·refine .inl ⟨q,⟨g1,g2,fun h=>g3 (List.mem_cons_of_mem _ h),fun h=>?_⟩,g5⟩
    rcases(dn_set his).1 h with h|h
    ·exact g3 (by rw[h];exact List.mem_cons.2 (.inl rfl))
    ·exact g4 h
   ·refine .inr ⟨W,conc_mono hle g1,?_⟩
    cases hd:o.dst with
    |none=>exact g2
    |some d=>simp only[Act.put];rw[Array.getElem?_setIfInBounds_ne (fun h=>e (by rw[hd,h]))];exact g2
 ·obtain⟨g1,g2⟩:=hWD hj
  have hpre':DStep.pure j∈pre:=by
   have:=g1.1
   rw[hpre] at this
   rcases List.mem_append.1 this with h|h
   ·exact h
   ·exact absurd (List.mem_map.2 ⟨_,h,rfl⟩) g1.2.2.1
  rcases hanew pre hpre j hpre' with h|h
  ·exact h7 j h
  ·exact absurd (hI.ancD hO ho hpo h) g1.2.2.2
 ·obtain⟨g1,g2⟩:=hWD hj
  obtain⟨p,p1,p2,p3,p4⟩:=hI.allocs j g1
  have hmb:memB p.i ins=false:=by
   cases hm:memB p.i ins with
   |false=>rfl
   |true=>exact absurd (p2▸hinsD p p1 hm) g1.2.2.2
  refine⟨p,by simp[p1,hmb],p2,hst.names _ (by have:=(hI.pend p p1).2.2.1;have:=hI.names.1;omega) p3,?_⟩
  subst p2
  rw[chkA_agree (fr:=fr) (fr':=fr') (p:=p) hng' (fun oj d' hj hd'=>hfree g1 g2 oj d' hj hd')];exact p4
 ·obtain⟨hp1,hp2⟩:=hpf hp'
  obtain⟨g1,g2,g3,g4⟩:=hI.pend p hp1
  refine⟨g1,fun h=>g2 (List.mem_cons_of_mem _ h),g3,fun h=>?_⟩
  rcases(dn_set his).1 h with h|h
  ·exact absurd (by simp[h]) g2
  ·exact(hmade1 p hp1 hp2 h).step hst
 ·obtain⟨hp1,hp2⟩:=hpf hp1
  obtain⟨hq1,hq2⟩:=hpf hq1
  refine⟨(hI.dist p hp1 q hq1 hne).1,fun h pl ql k1 k2=>?_⟩
  obtain⟨g1,g2,_,g4⟩:=hI.pend p hp1
  have hDp:Dn D p.i:=by
   rcases(dn_set his).1 h with h|h
   ·exact absurd (by simp[h]) g2
   ·exact h
  obtain⟨pl',l1,l2,l3,l4⟩:=g4 hDp
  have e:=hle _ _ l1
  rw[k1] at e;injection e with e;subst e
  cases hq:ι q.b with
  |none=>
   have:=hst.names _ (by have:=(hI.pend q hq1).2.2.1;have:=hI.names.1;omega) hq
   rw[k2] at this;cases this
  |some ql'=>
   have e:=hle _ _ hq
   rw[k2] at e;injection e with e;subst e
   exact(hI.dist p hp1 q hq1 hne).2 hDp pl ql l1 hq
 ·have:((ps.filter fun p=>!memB p.i ins).map Pend.i).Sublist (ps.map Pend.i):=(List.filter_sublist).map _
  exact this.nodup hI.once
theorem all_done (hO:OrdOk ops S0) (hI:Inv P g call ops S0 mask ι0 m0 w0 top D rest ι fr m nm ps a w) (hr:Region.ready .any ops D=[]):∀i,i<ops.size→Dn D i:=by
 intro i
 induction i using Nat.strongRecOn with
 |_ i ih=>
  intro hi
  apply Classical.byContradiction
  intro hn
  have ho:ops[i]? =some ops[i]:=Array.getElem?_eq_getElem hi
  have hm:i∈Region.ready .any ops D:=mem_ready.2 ⟨by
   unfold Dn at hn
   rw[Array.getD_eq_getD_getElem?] at hn ⊢
   have:i<D.size:=by rw[hI.dsize];exact hi
   rw[Array.getElem?_eq_getElem this] at hn ⊢
   simpa using hn,ops[i],ho,fun e he hb=>ih e.on (hO.back i _ ho e he hb) (Nat.lt_trans (hO.back i _ ho e he hb) hi)⟩
  rw[hr] at hm;cases hm
theorem Inv.done (_hO:OrdOk ops S0) (hI:Inv P g call ops S0 mask ι0 m0 w0 top D rest ι fr m nm ps a w) (h:drawS g call ops top rest fr m nm ps f=.ok) (hall:∀i,i<ops.size→Dn D i) (hK:∀a w ι fr m,f fr m=.ok→St P mask ι0 m0 w0 ι fr m a w→Q .normal a w)
  (hlow:∀s∈S0,stepIdx s<ops.size):Q .normal a w:=by
 cases rest with
 |cons s rest=>
  obtain⟨pre,hpre⟩:=hI.split
  exact absurd (by simp) (hI.inB _ (hall _ (hlow s (by rw[hpre];simp))))
 |nil=>
  have h:insK (ps.map Pend.i) ps m (fun _ m=>f fr m)=.ok:=h
  have hD:∀p∈ps,Dn D p.i:=fun p hp=>hall _ (hlow _ (hI.pend p hp).1)
  obtain⟨m1,h1,hn1,hs1,hocc1⟩:=insK_ok h hI.step (fun p hp' _=>(hI.pend p hp').2.2.2 (hD p hp')) (fun p hp1 q hq1 hne _=>(hI.dist p hp1 q hq1 hne).2 (hD p hp1)) hI.once
  refine hK a w ι fr m1 h1 ⟨hs1,⟨hI.size,hI.ng,hI.masked,fun t x hx=>?_⟩,hI.defs.ext fun r ob hr' ho'=>⟨rfl,fun hh=>?_⟩⟩
  ·rcases hI.val t x hx with⟨s,⟨g1,_,_,g4⟩,_⟩|h
   ·exact absurd (hall _ (hlow s g1)) g4
   ·exact h
  ·rcases hocc1 r hh with hh|⟨p,_,_,pl,_,k2,k3⟩
   ·exact ho' hh
   ·subst k3;exact blk_not_deferred k2 hr'
theorem apartK_ok {oi oj:Oper} {k:R} (h:apartK oi oj fr m k=.ok):k=.ok:=by
 unfold apartK at h
 split at h<;>first|(cases h;done)|skip
 obtain⟨p,h1⟩:=ev_ex h
 obtain⟨q,h2⟩:=ev_ex h1
 split at h2<;>first|(cases h2;done)|skip
 obtain⟨_,h3⟩:=ifB_ok h2
 obtain⟨y,_,h4⟩:=T.getK_ok (h3:m.t.getK _ _=.ok)
 obtain⟨z,_,h5⟩:=T.getK_ok (h4:m.t.getK _ _=.ok)
 split at h5<;>first|(cases h5;done)|skip
 exact(ifB_ok h5).2
theorem cnt_pos {D:Array Bool} {x:Nat} (hx:x<D.size) (h:¬Dn D x):0<D.toList.count false:=by
 have hf:D[x]=false:=by
  unfold Dn at h
  rw[Array.getD_eq_getD_getElem?,Array.getElem?_eq_getElem hx] at h
  simpa using h
 exact List.count_pos_iff.2 (by rw[←hf,←Array.getElem_toList];exact List.getElem_mem _)
theorem cnt_set {D:Array Bool} {x:Nat} (hx:x<D.size) (h:¬Dn D x):(D.setIfInBounds x true).toList.count false+1=D.toList.count false:=by
 have hpos:=cnt_pos hx h
 have hf:D[x]=false:=by
  unfold Dn at h
  rw[Array.getD_eq_getD_getElem?,Array.getElem?_eq_getElem hx] at h
  simpa using h
 rw[Array.toList_setIfInBounds,List.count_set (by simpa using hx)]
 have hf2:D.toList[x]'(by simpa using hx)=false:=by rw[Array.getElem_toList];exact hf
 rw[hf2]
 have e2:((if(false==false)=true then 1 else 0):Nat)=1:=rfl
 have e3:((if(true==false)=true then 1 else 0):Nat)=0:=rfl
 rw[e2,e3]
 omega
theorem all_ready (hO:OrdOk ops S0) (hsz:D.size=ops.size) (hr:Region.ready .any ops D=[]):∀i,i<ops.size→Dn D i:=by
 intro i
 induction i using Nat.strongRecOn with
 |_ i ih=>
  intro hi
  apply Classical.byContradiction
  intro hn
  have ho:ops[i]? =some ops[i]:=Array.getElem?_eq_getElem hi
  have hm:i∈Region.ready .any ops D:=mem_ready.2 ⟨by
   unfold Dn at hn
   rw[Array.getD_eq_getD_getElem?] at hn ⊢
   have:i<D.size:=by rw[hsz];exact hi
   rw[Array.getElem?_eq_getElem this] at hn ⊢
   simpa using hn,ops[i],ho,fun e he hb=>ih e.on (hO.back i _ ho e he hb) (Nat.lt_trans (hO.back i _ ho e he hb) hi)⟩
  rw[hr] at hm;cases hm
theorem Inv.idx (hO:OrdOk ops S0) (hg:GOk P g) (hI:Inv P g call ops S0 mask ι0 m0 w0 top D rest ι fr m nm ps a w) {x:Nat} (hW:Waits S0 D rest (.pure x)) (hx:idxB ops x=true)
  (hp:∀o,ops[x]? =some o→∀e∈o.after,Region.binds .any e=true→Dn D e.on):
  ∃o t y z V,ops[x]? =some o∧o.op=.indexAddr t y z∧o.guard=none∧∀w2:World,(Instr.indexAt t (a.eval y) (a.eval z)).run P w2=.ok V w2:=by
 unfold idxB at hx
 split at hx
 ·rename_i o ho
  simp only[Bool.and_eq_true,Option.isNone_iff_eq_none] at hx
  obtain⟨⟨h1,h2⟩,h3⟩:=hx
  split at h1
  ·rename_i t y z hop
   have hc:=hI.pures x hW
   obtain⟨o',e1,k1⟩:=optK_ok (hc:optK 0 ops[x]? (fun o=>optK 0 o.dst fun d=>fr.getK d fun v=>operV g call ops o fr m fun v' m'=>ifB 0 (eqB 5 v v') (ifB 0 (Nat.beq m'.next m.next) .ok))=.ok)
   rw[ho] at e1;injection e1 with e1;subst e1
   obtain⟨d,hd,k2⟩:=optK_ok k1
   obtain⟨v0,_,k3⟩:=Fr.getK_ok k2
   unfold operV at k3
   rw[h2] at k3
   have k4:opK o.op g call fr m (fun v' m'=>ifB 0 (eqB 5 v0 v') (ifB 0 (Nat.beq m'.next m.next) .ok))=.ok:=k3
   rw[hop] at k4
   have hs:=hI.seen hO ho (hp o ho)
   obtain⟨u,k5,hu⟩:=seen_ev hI.step.rel hs (x:=y) (by simp[looks,hop,Op.operands]) (k4:ev y fr (fun x=>ev z fr fun i=>indexAddrK g t x i fun v=>ifB 0 (eqB 5 v0 v) (ifB 0 (Nat.beq m.next m.next) .ok))=.ok)
   obtain⟨v,k6,hv⟩:=seen_ev hI.step.rel hs (x:=z) (by simp[looks,hop,Op.operands]) k5
   obtain⟨r,V,q1,q2,_⟩:=indexAddrK_ok (w:=w) hg hu hv k6
   refine⟨o,t,y,z,V,ho,hop,h2,fun w2=>?_⟩
   obtain⟨r',V',q1',q2',q3'⟩:=indexAddrK_ok (w:=w2) hg hu hv k6
   have e1:=eqB_ok 5 _ _ (ifB_ok q1).1
   have e2:=eqB_ok 5 _ _ (ifB_ok q1').1
   rw[←e1] at q2
   rw[←e2,q2] at q2'
   injection q2' with q2'
   rw[q3',q2']
  ·cases h1
 ·cases hx
theorem idx_wp {x:Nat} {o:Oper} {t:TypeId} {y z:Operand} {V:Value} {K:Act→World→Prop} (ho:ops[x]? =some o) (hop:o.op=.indexAddr t y z) (hgd:o.guard=none) (hF:Wide F)
  (h:(Instr.indexAt t (a.eval y) (a.eval z)).run P w=.ok V w) (hK:K (a.put o.dst V) w):wpOpIn F n P ops Q x K a w:=by
 unfold wpOpIn
 rw[ho]
 have hw:Region.wanted o (yielded ops a.tmps)=true:=by simp[Region.wanted,hgd]
 simp only[hw,if_true]
 refine⟨fun _ _=>hF.fn _,?_⟩
 rw[Oper.semAt_eq _ _ _ fun c hc=>by rw[hop] at hc;cases hc]
 simp only[execOp,hop,Sem.run_bind,h,Result.andThen_ok,Sem.run_pure]
 exact hK
theorem idx_wp' {x:Nat} {o:Oper} {t:TypeId} {y z:Operand} {V:Value} {K:Act→World→Prop} (ho:ops[x]? =some o) (hop:o.op=.indexAddr t y z) (hgd:o.guard=none)
  (h:(Instr.indexAt t (a.eval y) (a.eval z)).run P w=.ok V w) (hK:wpOpIn F n P ops Q x K a w):K (a.put o.dst V) w:=by
 unfold wpOpIn at hK
 rw[ho] at hK
 have hw:Region.wanted o (yielded ops a.tmps)=true:=by simp[Region.wanted,hgd]
 simp only[hw,if_true] at hK
 have hK:=hK.2
 rw[Oper.semAt_eq _ _ _ fun c hc=>by rw[hop] at hc;cases hc] at hK
 simp only[execOp,hop,Sem.run_bind,h,Result.andThen_ok,Sem.run_pure] at hK
 exact hK
theorem eval_put {o:Oper} {V:Value} {x:Operand} (h:∀d,o.dst=some d→x≠.tmp d):(a.put o.dst V).eval x=a.eval x:=by
 cases hd:o.dst with
 |none=>rfl
 |some d=>
  have hne:=h d hd
  cases x with
  |tmp t=>
   have:d≠t:=fun e=>hne (by rw[e])
   simp[Act.put,Act.eval,Array.getElem?_setIfInBounds_ne this]
  |_=>rfl
theorem second_ok (hO:OrdOk ops S0) (hg:GOk P g) (hflat:∀t,g.isFlat t=true→Flat P t) (hc:CallOk P call) (hF:Wide F) {i j:Nat} {ins chk:List Nat} {oj:Oper} {tj:TypeId} {xj yj:Operand} (hoj:ops[j]? =some oj) (hopj:oj.op=.store tj xj yj) (hgj:oj.guard=none) (hdj:oj.dst=none):
  ∀(k:Nat) {D:Array Bool} {rest:List DStep} {ι:Inj} {fr:Fr} {m:Mem} {nm:Nat} {ps:List Pend} {a:Act} {w w':World},
  (∀k'<k,∀ {D:Array Bool} {post:List DStep} {ι:Inj} {fr:Fr} {m:Mem} {nm:Nat} {ps:List Pend} {a:Act} {w:World},D.toList.count false≤k'→Inv P g call ops S0 mask ι0 m0 w0 top D post ι fr m nm ps a w→drawS g call ops top post fr m nm ps f=.ok→
   wpAnyIn F n P .any ops Q k' D a w)→
  (D.setIfInBounds j true).toList.count false≤k→Inv P g call ops S0 mask ι0 m0 w0 top D (.two i j ins chk::rest) ι fr m nm ps a w→drawS g call ops top (.two i j ins chk::rest) fr m nm ps f=.ok→
  (∀e∈oj.after,Region.binds .any e=true→Dn D e.on)→(Instr.storeAt tj (a.eval xj) (a.eval yj)).run P w=.ok () w'→
  wpAnyIn F n P .any ops Q k (D.setIfInBounds j true) a w':=by
 intro k
 induction k with
 |zero=>
  intro D rest ι fr m nm ps a w w' _ hcnt hI h hpj hst
  exfalso
  obtain⟨pre,hpre⟩:=hI.split
  obtain⟨⟨chk2,post,hrest,_⟩,_,_,_,hsi,_,_⟩:=hO.two pre i j ins chk rest hpre
  subst hrest
  obtain⟨oi,_,_,_,hoi,_⟩:=storeB_ok hsi
  have hnd:=hO.nodup
  rw[hpre,List.map_append] at hnd
  have hij:i≠j:=fun e=>by
   have:=(List.nodup_cons.1 ((List.nodup_append.1 hnd).2.1:(i::j::post.map stepIdx).Nodup)).1
   simp[e,stepIdx] at this
  have hjD:j<D.size:=by rw[hI.dsize];exact lt_of_get hoj
  have:=cnt_pos (D:=D.setIfInBounds j true) (x:=i) (by simp only[Array.size_setIfInBounds];rw[hI.dsize];exact lt_of_get hoi) fun hh=>by
   rcases(dn_set hjD).1 hh with e|hh
   ·exact hij e
   ·exact hI.inB _ hh (by simp[stepIdx])
  omega
 |succ k ihk=>
  intro D rest ι fr m nm ps a w w' ih hcnt hI h hpj hst
  obtain⟨pre,hpre⟩:=hI.split
  obtain⟨⟨chk2,post,hrest,hpost⟩,hpure,halloc,hins2,hsi,hsj,hpred⟩:=hO.two pre i j ins chk rest hpre
  subst hrest
  obtain⟨oi,ti,xi,yi,hoi,hopi,hgi,hdi⟩:=storeB_ok hsi
  have hnd:=hO.nodup
  rw[hpre,List.map_append] at hnd
  obtain⟨_,hnd2,hdisj⟩:=List.nodup_append.1 hnd
  have hij:i≠j:=fun e=>by
   have:=(List.nodup_cons.1 (hnd2:(i::j::post.map stepIdx).Nodup)).1
   simp[e,stepIdx] at this
  have hpj':∀o,ops[j]? =some o→∀e∈o.after,Region.binds .any e=true→Dn D e.on:=fun o ho=>by
   rw[hoj] at ho;injection ho with ho;subst ho;exact hpj
  have hnotin:∀p∈pre,stepIdx p∉(DStep.two i j ins chk::.eff j [] chk2::post).map stepIdx:=fun p hp' hx=>hdisj _ (List.mem_map.2 ⟨p,hp',rfl⟩) _ hx rfl
  have hjpre:j∉pre.map stepIdx:=fun hh=>hdisj _ hh j (by simp[stepIdx]) rfl
  have hnDi:¬Dn D i:=fun hh=>hI.inB _ hh (by simp[stepIdx])
  have hnDj:¬Dn D j:=fun hh=>hI.inB _ hh (by simp[stepIdx])
  have hiD:i<D.size:=by rw[hI.dsize];exact lt_of_get hoi
  have hjD:j<D.size:=by rw[hI.dsize];exact lt_of_get hoj
  have hpreD:∀p∈pre,Dn D (stepIdx p)∨∃x,p=.pure x∧idxB ops x=true∧∀o,ops[x]? =some o→∀e∈o.after,Region.binds .any e=true→e.on∈pre.map stepIdx:=fun p hp'=>by
   cases p with
   |pure x=>
    rcases(hpure x hp').2 with h1|h1
    ·exact .inl (hI.ancD hO hoj hpj h1)
    ·exact .inr ⟨x,rfl,h1⟩
   |alloc x=>exact .inl (hI.ancD hO hoj hpj (halloc x hp').2)
   |eff x u v=>exact .inl (hI.effs _ (by rw[hpre];exact List.mem_append_left _ hp') rfl (hnotin _ hp'))
   |two x u v z=>exact .inl (hI.effs _ (by rw[hpre];exact List.mem_append_left _ hp') rfl (hnotin _ hp'))
  have hclosed:∀x o,Dn (D.setIfInBounds j true) x→ops[x]? =some o→∀e∈o.after,Region.binds .any e=true→Dn (D.setIfInBounds j true) e.on:=fun x o hx ho e he hb=>(dn_set hjD).2 (.inr (by
   rcases(dn_set hjD).1 hx with rfl|hx
   ·exact hpj' o ho e he hb
   ·exact hI.closed x o hx ho e he hb))
  refine⟨fun hr=>?_,fun x hx=>?_⟩
  ·exfalso
   rcases(dn_set hjD).1 (all_ready hO (by simpa using hI.dsize) hr i (lt_of_get hoi)) with e|hh
   ·exact hij e
   ·exact hnDi hh
  obtain⟨hun,o,ho,hpo⟩:=mem_ready.1 hx
  have hxs:x<(D.setIfInBounds j true).size:=by simp only[Array.size_setIfInBounds];rw[hI.dsize];exact lt_of_get ho
  have hnx:¬Dn (D.setIfInBounds j true) x:=by
   unfold Dn
   rw[Array.getD_eq_getD_getElem?,Array.getElem?_eq_getElem hxs] at hun ⊢
   simpa using hun
  have hcx:=cnt_set hxs hnx
  obtain⟨s,hs,hse⟩:=List.mem_map.1 (hO.cover x (lt_of_get ho))
  have hsS:=hs
  rw[hpre] at hs
  rcases List.mem_append.1 hs with hs|hs
  ·
   rcases hpreD s hs with hd|⟨x',e,hidx,hpp⟩
   ·rw[hse] at hd;exact absurd ((dn_set hjD).2 (.inr hd)) hnx
   subst e
   have hse:x'=x:=hse
   subst hse
   have hW:Waits S0 D (.two i j ins chk::.eff j [] chk2::post) (.pure x'):=⟨hsS,rfl,hnotin _ hs,fun hh=>hnx ((dn_set hjD).2 (.inr hh))⟩
   have hpx:∀o,ops[x']? =some o→∀e∈o.after,Region.binds .any e=true→Dn D e.on:=fun o' ho' e he hb=>by
    have hm:=hpp o' ho' e he hb
    rw[ho] at ho';injection ho' with ho';subst ho'
    rcases(dn_set hjD).1 (hpo e he hb) with hh|hh
    ·rw[hh] at hm;exact absurd hm hjpre
    ·exact hh
   obtain⟨o',t,y,z,V,ho',hop,hgd,hV⟩:=hI.idx hO hg hW hidx hpx
   obtain⟨ι',hI2⟩:=idx_wp' ho' hop hgd (hV w) (hI.runPure (F:=F) (n:=n) (Q:=fun _ _ _=>False) hO hg hflat hc hF hW hpx)
   refine idx_wp ho' hop hgd hF (hV w') ?_
   have hxj:x'≠j:=fun e=>hnx ((dn_set hjD).2 (.inl e))
   rw[Array.setIfInBounds_comm _ _ (Ne.symm hxj)]
   rw[Array.setIfInBounds_comm _ _ (Ne.symm hxj)] at hcx
   have hx'D:x'<D.size:=by rw[hI.dsize];exact lt_of_get ho
   have hev:∀u,Operand.tmp u∈looks ops oj→o'.dst≠some u:=fun u hu hd=>hnx ((dn_set hjD).2 (.inr (hI.ancD hO hoj hpj (hO.seen _ hsS rfl j oj o' u hoj ho' hd hu))))
   refine ihk (fun k' hk'=>ih k' (by omega)) (by omega) hI2 h (fun e he hb=>(dn_set hx'D).2 (.inr (hpj e he hb))) ?_
   rw[eval_put fun d hd e=>hev d (by rw[←e];simp[looks,hopj,Op.operands]) hd,eval_put fun d hd e=>hev d (by rw[←e];simp[looks,hopj,Op.operands]) hd]
   exact hst
  rcases List.mem_cons.1 hs with e|hs
  ·
   subst e
   have hse:i=x:=hse
   subst hse
   have hpi:∀o,ops[i]? =some o→∀e∈o.after,Region.binds .any e=true→Dn D e.on:=fun o' ho' e he hb=>by
    have hm:=hpred o' ho' e he hb
    rw[ho] at ho';injection ho' with ho';subst ho'
    rcases(dn_set hjD).1 (hpo e he hb) with hh|hh
    ·rw[hh] at hm;exact absurd hm hjpre
    ·exact hh
   obtain⟨ps1,m1,hins⟩:=insK_total (ins:=ins) ps m
   have h0:insK ins ps m (fun ps m=>optK 0 ops[i]? fun o=>optK 0 ops[j]? fun oj=>apartK o oj fr m (operV g call ops o fr m fun v m=>putFr fr o.dst v fun fr=>chkAll g call ops chk fr m (drawS g call ops top (.eff j [] chk2::post) fr m nm ps f)))=.ok:=h
   rw[hins] at h0
   obtain⟨o',e1,h1⟩:=optK_ok h0
   rw[hoi] at e1;injection e1 with e1;subst e1
   obtain⟨o',e1,h2⟩:=optK_ok h1
   rw[hoj] at e1;injection e1 with e1;subst e1
   have hinsD:∀p∈ps,memB p.i ins=true→Dn D p.i:=fun p _ hm=>hI.ancD hO hoj hpj (hins2 p.i (memB_iff.1 hm)).2
   have hstep1:Step P ι0 m0 w0 ι m1 w:=by
    classical
    have hk:insK ins ps m (fun _ m=>if m=m1 then R.ok else .bad 0)=.ok:=by rw[hins,if_pos rfl]
    obtain⟨m2,k1,_,k2,_⟩:=insK_ok hk hI.step (fun p hp' hm=>(hI.pend p hp').2.2.2 (hinsD p hp' hm)) (fun p hp1 q hq1 hne hm=>(hI.dist p hp1 q hq1 hne).2 (hinsD p hp1 hm)) hI.once
    split at k1
    ·rename_i e;rw[←e];exact k2
    ·cases k1
   have hap:=h2
   unfold apartK at h2
   rw[hopi,hopj] at h2
   obtain⟨p,h3,hcp⟩:=seen_ev hstep1.rel (hI.seen hO hoi (hpi oi hoi)) (x:=xi) (by simp[looks,hopi,Op.operands]) h2
   obtain⟨q,h4,hcq⟩:=seen_ev hstep1.rel (hI.seen hO hoj hpj) (x:=xj) (by simp[looks,hopj,Op.operands]) h3
   split at h4<;>first|(cases h4;done)|skip
   rename_i b ob c oc
   obtain⟨h5,h6⟩:=ifB_ok h4
   obtain⟨y,hy,h7⟩:=T.getK_ok (h6:m1.t.getK b _=.ok)
   obtain⟨z,hz,h8⟩:=T.getK_ok (h7:m1.t.getK c _=.ok)
   split at h8<;>first|(cases h8;done)|skip
   rename_i cb eb gb zb cc ec gc zc
   obtain⟨h9,h10⟩:=ifB_ok h8
   obtain⟨pb,hpb,Cb,eb',fb,Lb,hwb,_⟩:=hstep1.rel.blk b _ hy
   obtain⟨pc,hpc,Cc,ec',fc,Lc,hwc,_⟩:=hstep1.rel.blk c _ hz
   obtain⟨pb',hpb',hab⟩:=conc_ptr hcp
   obtain⟨pc',hpc',hac⟩:=conc_ptr hcq
   rw[hpb] at hpb';injection hpb' with hpb';subst hpb'
   rw[hpc] at hpc';injection hpc' with hpc';subst hpc'
   have hbc:b≠c:=fun e=>by rw[e] at h5;simp at h5
   have hz1:zc≤1:=Nat.le_of_ble_eq_true h9
   have hblk:pc.blk≠pb.blk:=fun e=>hbc (hstep1.rel.apart c b _ _ pc pb hz hy hpc hpb e (by
    have:zc=0∨zc=1:=by omega
    rcases this with rfl|rfl<;>rfl)).symm
   have hr1:=Inv.runEff (F:=F) (n:=n) (Q:=fun _ _ _=>False) (f:=f) hO hg hflat hc hF (s:=.two i j ins chk) (i:=i) (ins:=ins) (chk:=chk) rfl rfl (fun x hx=>(hins2 x hx).1) (fun pre' hpre' x hx=>((hO.two pre' i j ins chk _ hpre').2.1 x hx).1) hI
    (by rw[hins,hoi];exact h10) hpi
   obtain⟨w1,hrun1,ι1,fr1,m2,ps2,hI1,hd1⟩:=store_wp' hoi hopi hgi hdi hr1
   have hr2:=Inv.runEff (F:=F) (n:=n) (Q:=fun _ _ _=>False) (f:=f) hO hg hflat hc hF (s:=.eff j [] chk2) (i:=j) (ins:=[]) (chk:=chk2) rfl rfl (fun x hx=>by cases hx) (fun pre' hpre' x hx=>hO.anew pre' j [] chk2 _ hpre' x hx) hI1 hd1
    (fun o ho e he hb=>(dn_set hiD).2 (.inr (hpj' o ho e he hb)))
   obtain⟨w2,hrun2,ι2,fr2,m3,ps3,hI2,hd2⟩:=store_wp' hoj hopj hgj hdj hr2
   rw[hab] at hrun1
   rw[hac] at hrun2 hst
   obtain⟨Cb2,hw1,gen1⟩:=storeAt_local hwb hrun1
   have hwc1:w1.heap[pc.blk]? =some (.cells Cc ec' fc):=by rw[hw1,World.putObj_heap_other hblk];exact hwc
   obtain⟨Cc2,hw2,gen2⟩:=storeAt_local hwc1 hrun2
   rw[gen2 w hwc] at hst
   injection hst with _ hst
   subst hst
   have hww:(w.putObj pc.blk (.cells Cc2 ec' fc)).putObj pb.blk (.cells Cb2 eb' fb)=w2:=by rw[hw2,hw1,World.putObj_comm _ _ _ hblk]
   refine store_wp hoi hopi hgi hdi hF (w':=w2) (by rw[hab,←hww];exact gen1 _ (by rw[World.putObj_heap_other (Ne.symm hblk)];exact hwb)) ?_
   rw[Array.setIfInBounds_comm _ _ (Ne.symm hij)]
   rw[Array.setIfInBounds_comm _ _ (Ne.symm hij)] at hcx
   exact ih k (Nat.lt_succ_self _) (by omega) hI2 hd2
  rcases List.mem_cons.1 hs with e|hs
  ·subst e
   exact absurd ((dn_set hjD).2 (.inl hse.symm)) hnx
  ·exfalso
   subst hse
   have:=anc_done (D:=Dn (D.setIfInBounds j true)) hO.back hclosed _ ho hpo (hpost s hs)
   rcases(dn_set hjD).1 this with e|hh
   ·exact hij e
   ·exact hnDi hh
theorem second_runs (hO:OrdOk ops S0) (hg:GOk P g) (hflat:∀t,g.isFlat t=true→Flat P t) (hc:CallOk P call) (hF:Wide F) {i j:Nat} {ins chk:List Nat} {oj:Oper} {tj:TypeId} {xj yj:Operand} (hoj:ops[j]? =some oj) (hopj:oj.op=.store tj xj yj) (hgj:oj.guard=none) (hdj:oj.dst=none):
  ∀(k:Nat) {D:Array Bool} {rest:List DStep} {ι:Inj} {fr:Fr} {m:Mem} {nm:Nat} {ps:List Pend} {a:Act} {w:World},D.toList.count false≤k→Inv P g call ops S0 mask ι0 m0 w0 top D (.two i j ins chk::rest) ι fr m nm ps a w→drawS g call ops top (.two i j ins chk::rest) fr m nm ps f=.ok→
  (∀e∈oj.after,Region.binds .any e=true→Dn D e.on)→∃w',(Instr.storeAt tj (a.eval xj) (a.eval yj)).run P w=.ok () w':=by
 intro k
 induction k with
 |zero=>
  intro D rest ι fr m nm ps a w hcnt hI h hpj
  exfalso
  have:=cnt_pos (D:=D) (x:=j) (by rw[hI.dsize];exact lt_of_get hoj) fun hh=>by
   obtain⟨pre,hpre⟩:=hI.split
   obtain⟨⟨chk2,post,hrest,_⟩,_⟩:=hO.two pre i j ins chk rest hpre
   subst hrest
   exact hI.inB _ hh (by simp[stepIdx])
  omega
 |succ k ihk=>
  intro D rest ι fr m nm ps a w hcnt hI h hpj
  obtain⟨pre,hpre⟩:=hI.split
  obtain⟨⟨chk2,post,hrest,hpost⟩,hpure,halloc,hins2,hsi,hsj,hpred⟩:=hO.two pre i j ins chk rest hpre
  subst hrest
  obtain⟨oi,ti,xi,yi,hoi,hopi,hgi,hdi⟩:=storeB_ok hsi
  have hnd:=hO.nodup
  rw[hpre,List.map_append] at hnd
  obtain⟨_,hnd2,hdisj⟩:=List.nodup_append.1 hnd
  have hpj':∀o,ops[j]? =some o→∀e∈o.after,Region.binds .any e=true→Dn D e.on:=fun o ho=>by
   rw[hoj] at ho;injection ho with ho;subst ho;exact hpj
  have hnotin:∀p∈pre,stepIdx p∉(DStep.two i j ins chk::.eff j [] chk2::post).map stepIdx:=fun p hp' hx=>hdisj _ (List.mem_map.2 ⟨p,hp',rfl⟩) _ hx rfl
  have hnDj:¬Dn D j:=fun hh=>hI.inB _ hh (by simp[stepIdx])
  have hiD:i<D.size:=by rw[hI.dsize];exact lt_of_get hoi
  have hpreD:∀p∈pre,Dn D (stepIdx p)∨∃x,p=.pure x∧idxB ops x=true∧∀o,ops[x]? =some o→∀e∈o.after,Region.binds .any e=true→e.on∈pre.map stepIdx:=fun p hp'=>by
   cases p with
   |pure x=>
    rcases(hpure x hp').2 with h1|h1
    ·exact .inl (hI.ancD hO hoj hpj h1)
    ·exact .inr ⟨x,rfl,h1⟩
   |alloc x=>exact .inl (hI.ancD hO hoj hpj (halloc x hp').2)
   |eff x u v=>exact .inl (hI.effs _ (by rw[hpre];exact List.mem_append_left _ hp') rfl (hnotin _ hp'))
   |two x u v z=>exact .inl (hI.effs _ (by rw[hpre];exact List.mem_append_left _ hp') rfl (hnotin _ hp'))
  by_cases hall:∀p∈pre,Dn D (stepIdx p)
  ·have hpi:∀o,ops[i]? =some o→∀e∈o.after,Region.binds .any e=true→Dn D e.on:=fun o' ho' e he hb=>by
    obtain⟨p,h1,h2⟩:=List.mem_map.1 (hpred o' ho' e he hb)
    rw[←h2];exact hall p h1
   obtain⟨ps1,m1,hins⟩:=insK_total (ins:=ins) ps m
   have h0:insK ins ps m (fun ps m=>optK 0 ops[i]? fun o=>optK 0 ops[j]? fun oj=>apartK o oj fr m (operV g call ops o fr m fun v m=>putFr fr o.dst v fun fr=>chkAll g call ops chk fr m (drawS g call ops top (.eff j [] chk2::post) fr m nm ps f)))=.ok:=h
   rw[hins] at h0
   obtain⟨o',e1,h1⟩:=optK_ok h0
   rw[hoi] at e1;injection e1 with e1;subst e1
   obtain⟨o',e1,h2⟩:=optK_ok h1
   rw[hoj] at e1;injection e1 with e1;subst e1
   have hinsD:∀p∈ps,memB p.i ins=true→Dn D p.i:=fun p _ hm=>hI.ancD hO hoj hpj (hins2 p.i (memB_iff.1 hm)).2
   have hstep1:Step P ι0 m0 w0 ι m1 w:=by
    classical
    have hk:insK ins ps m (fun _ m=>if m=m1 then R.ok else .bad 0)=.ok:=by rw[hins,if_pos rfl]
    obtain⟨m2,k1,_,k2,_⟩:=insK_ok hk hI.step (fun p hp' hm=>(hI.pend p hp').2.2.2 (hinsD p hp' hm)) (fun p hp1 q hq1 hne hm=>(hI.dist p hp1 q hq1 hne).2 (hinsD p hp1 hm)) hI.once
    split at k1
    ·rename_i e;rw[←e];exact k2
    ·cases k1
   have hap:=h2
   unfold apartK at h2
   rw[hopi,hopj] at h2
   obtain⟨p,h3,hcp⟩:=seen_ev hstep1.rel (hI.seen hO hoi (hpi oi hoi)) (x:=xi) (by simp[looks,hopi,Op.operands]) h2
   obtain⟨q,h4,hcq⟩:=seen_ev hstep1.rel (hI.seen hO hoj hpj) (x:=xj) (by simp[looks,hopj,Op.operands]) h3
   split at h4<;>first|(cases h4;done)|skip
   rename_i b ob c oc
   obtain⟨h5,h6⟩:=ifB_ok h4
   obtain⟨y,hy,h7⟩:=T.getK_ok (h6:m1.t.getK b _=.ok)
   obtain⟨z,hz,h8⟩:=T.getK_ok (h7:m1.t.getK c _=.ok)
   split at h8<;>first|(cases h8;done)|skip
   rename_i cb eb gb zb cc ec gc zc
   obtain⟨h9,h10⟩:=ifB_ok h8
   obtain⟨pb,hpb,Cb,eb',fb,Lb,hwb,_⟩:=hstep1.rel.blk b _ hy
   obtain⟨pc,hpc,Cc,ec',fc,Lc,hwc,_⟩:=hstep1.rel.blk c _ hz
   obtain⟨pb',hpb',hab⟩:=conc_ptr hcp
   obtain⟨pc',hpc',hac⟩:=conc_ptr hcq
   rw[hpb] at hpb';injection hpb' with hpb';subst hpb'
   rw[hpc] at hpc';injection hpc' with hpc';subst hpc'
   have hbc:b≠c:=fun e=>by rw[e] at h5;simp at h5
   have hz1:zc≤1:=Nat.le_of_ble_eq_true h9
   have hblk:pc.blk≠pb.blk:=fun e=>hbc (hstep1.rel.apart c b _ _ pc pb hz hy hpc hpb e (by
    have:zc=0∨zc=1:=by omega
    rcases this with rfl|rfl<;>rfl)).symm
   have hr1:=Inv.runEff (F:=F) (n:=0) (Q:=fun _ _ _=>False) (f:=f) hO hg hflat hc hF (s:=.two i j ins chk) (i:=i) (ins:=ins) (chk:=chk) rfl rfl (fun x hx=>(hins2 x hx).1) (fun pre' hpre' x hx=>((hO.two pre' i j ins chk _ hpre').2.1 x hx).1) hI
    (by rw[hins,hoi];exact h10) hpi
   obtain⟨w1,hrun1,ι1,fr1,m2,ps2,hI1,hd1⟩:=store_wp' hoi hopi hgi hdi hr1
   have hr2:=Inv.runEff (F:=F) (n:=0) (Q:=fun _ _ _=>False) (f:=f) hO hg hflat hc hF (s:=.eff j [] chk2) (i:=j) (ins:=[]) (chk:=chk2) rfl rfl (fun x hx=>by cases hx) (fun pre' hpre' x hx=>hO.anew pre' j [] chk2 _ hpre' x hx) hI1 hd1
    (fun o ho e he hb=>(dn_set hiD).2 (.inr (hpj' o ho e he hb)))
   obtain⟨w2,hrun2,ι2,fr2,m3,ps3,hI2,hd2⟩:=store_wp' hoj hopj hgj hdj hr2
   rw[hab] at hrun1
   rw[hac] at hrun2
   obtain⟨Cb2,hw1,gen1⟩:=storeAt_local hwb hrun1
   have hwc1:w1.heap[pc.blk]? =some (.cells Cc ec' fc):=by rw[hw1,World.putObj_heap_other hblk];exact hwc
   obtain⟨Cc2,hw2,gen2⟩:=storeAt_local hwc1 hrun2
   exact⟨_,by rw[hac];exact gen2 w hwc⟩
  ·
   have least:∀x,x∈pre.map stepIdx→¬Dn D x→∃y,y∈pre.map stepIdx∧¬Dn D y∧∀o,ops[y]? =some o→∀e∈o.after,Region.binds .any e=true→Dn D e.on:=by
    intro x
    induction x using Nat.strongRecOn with
    |_ x ihx=>
     intro hx hnx
     by_cases hpx:∀o,ops[x]? =some o→∀e∈o.after,Region.binds .any e=true→Dn D e.on
     ·exact⟨x,hx,hnx,hpx⟩
     ·simp only[Classical.not_forall] at hpx
      obtain⟨o,ho,e,he,hb,hne⟩:=hpx
      obtain⟨p,hp1,hp2⟩:=List.mem_map.1 hx
      rcases hpreD p hp1 with hd|⟨x',e1,_,hpp⟩
      ·rw[hp2] at hd;exact absurd hd hnx
      ·subst e1
       have hp2:x'=x:=hp2
       subst hp2
       exact ihx e.on (hO.back x' o ho e he hb) (hpp o ho e he hb) hne
   simp only[Classical.not_forall] at hall
   obtain⟨p,hp1,hp2⟩:=hall
   obtain⟨x,hx,hnx,hpx⟩:=least _ (List.mem_map.2 ⟨p,hp1,rfl⟩) hp2
   obtain⟨s,hs,hse⟩:=List.mem_map.1 hx
   rcases hpreD s hs with hd|⟨x',e,hidx,_⟩
   ·rw[hse] at hd;exact absurd hd hnx
   subst e
   have hse:x'=x:=hse
   subst hse
   have hsS:DStep.pure x'∈S0:=by rw[hpre];exact List.mem_append_left _ hs
   have hW:Waits S0 D (.two i j ins chk::.eff j [] chk2::post) (.pure x'):=⟨hsS,rfl,hnotin _ hs,hnx⟩
   obtain⟨o',t,y,z,V,ho',hop,hgd,hV⟩:=hI.idx hO hg hW hidx hpx
   obtain⟨ι',hI2⟩:=idx_wp' ho' hop hgd (hV w) (hI.runPure (F:=F) (n:=0) (Q:=fun _ _ _=>False) hO hg hflat hc hF hW hpx)
   have hx'D:x'<D.size:=by rw[hI.dsize];exact lt_of_get ho'
   have hcx:=cnt_set hx'D hnx
   have hev:∀u,Operand.tmp u∈looks ops oj→o'.dst≠some u:=fun u hu hd=>hnx (hI.ancD hO hoj hpj (hO.seen _ hsS rfl j oj o' u hoj ho' hd hu))
   have:=ihk (by omega) hI2 h (fun e he hb=>(dn_set hx'D).2 (.inr (hpj e he hb)))
   rw[eval_put fun d hd e=>hev d (by rw[←e];simp[looks,hopj,Op.operands]) hd,eval_put fun d hd e=>hev d (by rw[←e];simp[looks,hopj,Op.operands]) hd] at this
   exact this
theorem drawS_ok (hO:OrdOk ops S0) (hlow:∀s∈S0,stepIdx s<ops.size) (hg:GOk P g) (hflat:∀t,g.isFlat t=true→Flat P t) (hc:CallOk P call) (hF:Wide F) (hK:∀a w ι fr m,f fr m=.ok→St P mask ι0 m0 w0 ι fr m a w→Q .normal a w):
  ∀(fuel:Nat) {D:Array Bool} {rest:List DStep} {ι:Inj} {fr:Fr} {m:Mem} {nm:Nat} {ps:List Pend} {a:Act} {w:World},D.toList.count false≤fuel→Inv P g call ops S0 mask ι0 m0 w0 top D rest ι fr m nm ps a w→drawS g call ops top rest fr m nm ps f=.ok→
   wpAnyIn F n P .any ops Q fuel D a w:=by
 intro fuel
 induction fuel using Nat.strongRecOn with
 |_ fuel ihs=>
 cases fuel with
 |zero=>
  intro D rest ι fr m nm ps a w hcnt hI h
  have hall:∀i,i<ops.size→Dn D i:=fun i hi=>by
   have hi':i<D.toList.length:=by rw[Array.length_toList,hI.dsize];exact hi
   have h0:D.toList.count false=0:=by omega
   have:=List.count_eq_zero.1 h0
   unfold Dn
   rw[Array.getD_eq_getD_getElem?,Array.getElem?_eq_getElem (by simpa using hi')]
   simp only[Option.getD_some]
   cases hb:D[i]'(by simpa using hi') with
   |true=>rfl
   |false=>exact absurd (by rw[←hb];simp) this
  refine⟨?_,hI.done hO h hall hK hlow⟩
  apply List.eq_nil_iff_forall_not_mem.2
  intro i hi
  obtain⟨h1,o,h2,_⟩:=mem_ready.1 hi
  have:=hall i (lt_of_get h2)
  unfold Dn at this
  have hlt:i<D.size:=by rw[hI.dsize];exact lt_of_get h2
  rw[Array.getD_eq_getD_getElem?,Array.getElem?_eq_getElem hlt] at this h1
  simp at this h1
  rw[this] at h1;cases h1
 |succ fuel=>
  have ih:∀ {D:Array Bool} {rest:List DStep} {ι:Inj} {fr:Fr} {m:Mem} {nm:Nat} {ps:List Pend} {a:Act} {w:World},D.toList.count false≤fuel→Inv P g call ops S0 mask ι0 m0 w0 top D rest ι fr m nm ps a w→drawS g call ops top rest fr m nm ps f=.ok→
   wpAnyIn F n P .any ops Q fuel D a w:=fun h1 h2 h3=>ihs fuel (Nat.lt_succ_self _) h1 h2 h3
  intro D rest ι fr m nm ps a w hcnt hI h
  refine⟨fun hr=>hI.done hO h (all_done hO hI hr) hK hlow,fun i hi=>?_⟩
  obtain⟨hun,o,ho,hpo⟩:=mem_ready.1 hi
  have hlt:i<D.size:=by rw[hI.dsize];exact lt_of_get ho
  have hDi:D[i]=false:=by
   rw[Array.getD_eq_getD_getElem?,Array.getElem?_eq_getElem hlt] at hun
   simpa using hun
  have hnD:¬Dn D i:=by
   unfold Dn
   rw[Array.getD_eq_getD_getElem?,Array.getElem?_eq_getElem hlt]
   simp[hDi]
  have hcnt':(D.setIfInBounds i true).toList.count false≤fuel:=by
   have e:(D.setIfInBounds i true).toList=D.toList.set i true:=by simp
   rw[e,List.count_set (by simpa using hlt)]
   have hpos:0<D.toList.count false:=List.count_pos_iff.2 (by rw[←hDi];simp)
   have:D.toList[i]'(by simpa using hlt)=false:=by simpa using hDi
   rw[this]
   have e2:((if(false==false)=true then 1 else 0):Nat)=1:=rfl
   have e3:((if(true==false)=true then 1 else 0):Nat)=0:=rfl
   rw[e2,e3]
   omega
  have hp:∀o,ops[i]? =some o→∀e∈o.after,Region.binds .any e=true→Dn D e.on:=fun o' ho' e he hb=>by
   rw[ho] at ho';injection ho' with ho';subst ho'
   exact hpo e he hb
  obtain⟨rest',fr',nm',ps',hI',h',hhead⟩:=hI.norm hO h
  obtain⟨s,hs,hse⟩:=List.mem_map.1 (hO.cover i (lt_of_get ho))
  subst hse
  by_cases hin:stepIdx s∈rest'.map stepIdx
  ·
   cases rest' with
   |nil=>cases hin
   |cons s' rest'=>
    have hs':=hhead s' rest' rfl
    cases s' with
    |pure j=>cases hs'
    |alloc j=>cases hs'
    |two j jj ins chk=>
     obtain⟨pre,hpre⟩:=hI'.split
     obtain⟨⟨chk2,post,hrest,hpost⟩,_,_,hins2,hsi,hsj,hpred⟩:=hO.two pre j jj ins chk rest' hpre
     obtain⟨oi,_,_,_,hoi,_⟩:=storeB_ok hsi
     obtain⟨oj,tj,xj,yj,hoj,hopj,hgj,hdj⟩:=storeB_ok hsj
     have hcase:stepIdx s=j∨stepIdx s=jj:=by
      simp only[List.map_cons,List.mem_cons] at hin
      rcases hin with h|h
      ·exact .inl h
      ·obtain⟨s2,h2,h3⟩:=List.mem_map.1 h
       rw[hrest] at h2
       rcases List.mem_cons.1 h2 with rfl|h2
       ·exact .inr h3.symm
       ·exfalso
        have:=hpost s2 h2
        rw[h3] at this
        exact hI'.inB j (hI'.ancD hO ho (hp o ho) this) (by simp[stepIdx])
     rcases hcase with hsj'|hsj'
     ·rw[hsj'] at hp hcnt' ⊢
      obtain⟨ps1,m1,hins⟩:=insK_total (ins:=ins) ps' m
      have h0:insK ins ps' m (fun ps m=>optK 0 ops[j]? fun o=>optK 0 ops[jj]? fun oj=>apartK o oj fr' m (operV g call ops o fr' m fun v m=>putFr fr' o.dst v fun fr=>chkAll g call ops chk fr m (drawS g call ops top rest' fr m nm' ps f)))=.ok:=h'
      have h1:insK ins ps' m (fun ps m=>optK 0 ops[j]? fun o=>operV g call ops o fr' m fun v m=>putFr fr' o.dst v fun fr=>chkAll g call ops chk fr m (drawS g call ops top rest' fr m nm' ps f))=.ok:=by
       rw[hins] at h0 ⊢
       obtain⟨o1,e1,h2⟩:=optK_ok h0
       rw[e1]
       obtain⟨o2,e2,h3⟩:=optK_ok h2
       exact apartK_ok h3
      exact wpOpIn_mono (fun a' w' ⟨ι',fr2,m2,ps2,hI2,h2⟩=>ih hcnt' hI2 h2) (Inv.runEff hO hg hflat hc hF (s:=.two j jj ins chk) rfl rfl (fun x hx=>(hins2 x hx).1) (fun pre' hpre' x hx=>((hO.two pre' j jj ins chk _ hpre').2.1 x hx).1) hI' h1 hp)
     ·rw[hsj'] at hp hcnt' hnD hlt ⊢
      subst hrest
      obtain⟨w',hw'⟩:=second_runs (F:=F) hO hg hflat hc hF hoj hopj hgj hdj (D.toList.count false) (Nat.le_refl _) hI' h' (hp oj hoj)
      exact store_wp hoj hopj hgj hdj hF hw' (second_ok hO hg hflat hc hF hoj hopj hgj hdj fuel (fun k' hk'=>fun h1 h2 h3=>ihs k' (by omega) h1 h2 h3) hcnt' hI' h' (hp oj hoj) hw')
    |eff j ins chk=>
     obtain⟨pre,hpre⟩:=hI'.split
     have hsj:stepIdx s=j:=by
      simp only[List.map_cons,List.mem_cons] at hin
      rcases hin with h|h
      ·exact h
      ·exfalso
       obtain⟨s2,h2,h3⟩:=List.mem_map.1 h
       have:=hO.after pre j ins chk rest' hpre s2 h2
       rw[h3] at this
       have hDj:=hI'.ancD hO ho (hp o ho) this
       exact hI'.inB j hDj (by simp[stepIdx])
     rw[hsj] at hp hcnt' ⊢
     exact wpOpIn_mono (fun a' w' ⟨ι',fr2,m2,ps2,hI2,h2⟩=>ih (by simpa[hsj] using hcnt') hI2 h2) (Inv.runEff hO hg hflat hc hF (s:=.eff j ins chk) rfl rfl (fun x hx=>by obtain⟨pre,hpre⟩:=hI'.split;exact hO.ins pre j ins chk rest' hpre x hx) (fun pre hpre=>hO.anew pre j ins chk rest' hpre) hI' h' hp)
  ·have hW:∀hh:hoistStep s=true,Waits S0 D rest' s:=fun hh=>⟨hs,hh,hin,hnD⟩
   cases s with
   |pure j=>exact wpOpIn_mono (fun a' w' ⟨ι',hI2⟩=>ih hcnt' hI2 h') (hI'.runPure hO hg hflat hc hF (hW rfl) hp)
   |alloc j=>exact wpOpIn_mono (fun a' w' ⟨ι',hI2⟩=>ih hcnt' hI2 h') (hI'.runAlloc hO hg hF (hW rfl) hp)
   |eff j ins chk=>exact absurd (hI'.effs _ hs rfl hin) hnD
   |two j jj ins chk=>exact absurd (hI'.effs _ hs rfl hin) hnD
end
end Go.AM
end
section
namespace Go.AM
abbrev Tbl:=T (List (Nat×(Nat×List DStep)))
noncomputable def assocK {α:Type} (l:List (Nat×α)) (id:Nat) (f:α→R):R:=List.rec (motive:=fun _=>R) (R.bad 0) (fun x _ ih=>Bool.rec (motive:=fun _=>R) ih (f x.2) (Nat.beq x.1 id)) l
noncomputable def drawT (g:G) (tbl:Tbl) (call:CallF) (f:FuncId):DrawF:=fun id ops fr m k=>tbl.getK f fun l=>assocK l id fun e=>drawK g call e.1 e.2 ops fr m k
theorem assocK_ok {α:Type} {id:Nat} {f:α→R}:∀ {l:List (Nat×α)},assocK l id f=.ok→∃x,(id,x)∈l∧f x=.ok
 |[],h=>by cases h
 |(j,x)::l,h=>by
  have h:(Bool.rec (motive:=fun _=>R) (assocK l id f) (f x) (Nat.beq j id):R)=.ok:=h
  by_cases e:j=id
  ·subst e
   simp only[Nat.beq_refl] at h
   exact⟨x,List.mem_cons_self ..,h⟩
  ·have hb:Nat.beq j id=false:=by cases h':Nat.beq j id with|false=>rfl|true=>exact absurd (Nat.eq_of_beq_eq_true h') e
   rw[hb] at h
   obtain⟨y,h1,h2⟩:=assocK_ok h
   exact⟨y,List.mem_cons_of_mem _ h1,h2⟩
def TblOk (P:Program) (tbl:Tbl):Prop:=∀f l id e ops fn b,tbl.find f f=some l→(id,e)∈l→P.funcs[f]? =some fn→fn.body=some b→(id,ops)∈drawsOf b→ordOk ops e.2=true
theorem drawT_ok {P:Program} {g:G} (hg:GOk P g) (hflat:∀t,g.isFlat t=true→Flat P t) {tbl:Tbl} (htbl:TblOk P tbl) {call:CallF} (hc:CallOk P call) (f:FuncId) (F:Fence) (mask:Nat) (hF:Wide F):DrawOk P F mask f (drawT g tbl call f):=by
 intro n Q ι0 m0 w0 id ops ι fr m a w k hs hD h hK
 obtain⟨l,h1,h2⟩:=T.getK_ok (h:tbl.getK f (fun l=>assocK l id fun e=>drawK g call e.1 e.2 ops fr m k)=.ok)
 obtain⟨⟨kk,S⟩,h3,h4⟩:=assocK_ok h2
 obtain⟨fn,b,h5,h6,h7⟩:=hD (id,ops) (by simp[drawsOf])
 have hO:=ordOk_ok (htbl f l id _ ops fn b h1 h3 h5 h6 h7)
 have h4:forceN (Nat.add m.next kk) (fun top=>drawS g call ops top S fr ⟨top,m.t⟩ m.next [] k)=.ok:=h4
 rw[forceN_eq] at h4
 have hd:=Step.drew hs.step.rel (w.drawn+1)
 have h8:=hs.step.trans hd
 refine wpIn_region_any hg.mixed ?_
 refine drawS_ok (top:=Nat.add m.next kk) (f:=k) (mask:=mask) (ι0:=ι0) (m0:=m0) (w0:=w0) hO hO.low hg hflat hc hF hK ops.size (D:=Array.replicate ops.size false) (rest:=S) (ι:=ι) (fr:=fr) (m:=⟨Nat.add m.next kk,m.t⟩) (nm:=m.next) (ps:=[]) (by simp) ?_ h4
 have hnone:∀x,¬Dn (Array.replicate ops.size false) x:=fun x h=>by
  unfold Dn at h
  rw[Array.getD_eq_getD_getElem?] at h
  by_cases hx:x<ops.size
  ·rw[Array.getElem?_eq_getElem (by simpa using hx)] at h;simp at h
  ·rw[Array.getElem?_eq_none (by simpa using hx)] at h;cases h
 refine⟨h8.bump (by simp),(DefOk.ext (m:=m) (m':=⟨Nat.add m.next kk,m.t⟩) (ι':=ι) (fun r o _ h=>⟨rfl,fun h'=>h h'⟩) (hs.defs.step hd)),hs.fr.size,hs.fr.ng,hs.fr.masked,fun t x hx=>?_,⟨[],rfl⟩,by simp,fun x o hx=>absurd hx (hnone x),fun x hx=>absurd hx (hnone x),fun s hs' _ h=>absurd (List.mem_map.2 ⟨s,hs',rfl⟩) h,fun t x hx=>.inr (hs.fr.val t x hx),
  fun j hj=>absurd (List.mem_map.2 ⟨_,hj.1,rfl⟩) hj.2.2.1,fun j hj=>absurd (List.mem_map.2 ⟨_,hj.1,rfl⟩) hj.2.2.1,fun p hp=>(by cases hp),fun p hp=>(by cases hp),by simp,⟨⟨hs.step.next,by simp,by simp⟩,fun c h1 _=>hs.step.rel.fresh c h1⟩⟩
 obtain⟨V,_,h9⟩:=hs.fr.val t x hx
 rw[←hs.fr.size]
 exact lt_of_get h9
end Go.AM
end
section
namespace Go.AM
noncomputable section
def dataCell {H:Type}:DataW H→List AV
 | .lit (.int k n)=>[.int k n]
 | .lit (.bool b)=>[.bool b]
 | .lit (.string l)=>[.str l]
 |_=>[]
def dataCells {H:Type} (n:Nat):DataW H→List AV:=Nat.rec (motive:=fun _=>DataW H→List AV) dataCell (fun _ ih d=>match d with| .agg l=>l.flatMap ih|d=>dataCell d) n
def tblK (l:List (Nat×List (Nat×(Nat×List DStep)))) (f:Tbl→R):R:=
 List.rec (motive:=fun _=>Tbl→(Tbl→R)→R) (fun t f=>f t) (fun x _ ih t f=>t.setK x.1 x.2 fun t=>ih t f) l (T.nil 11) f
def globK (l:List (Nat×Blk)) (f:T Blk→R):R:=
 List.rec (motive:=fun _=>T Blk→(T Blk→R)→R) (fun t f=>f t) (fun x _ ih t f=>t.setK x.1 x.2 fun t=>ih t f) l (T.nil 16) f
def tablesK (p:Program) (flat:List TypeId) (f:G→R):R:=
 ofListK p.funcs.toList 0 (.nil 11) fun ft=>ofListK p.types.toList 0 (.nil 11) fun tt=>f ⟨ft,tt,flat,p.globals.size⟩
def isTrue (v:AV):R:=match v with| .bool true=>.ok|_=>.bad 0
end
end Go.AM
end
