/- Regions that ask for the order of their operations, last part. -/
import Derived.Test.YtmabhhngoklncaaGreatDoorU
set_option maxRecDepth 100000
set_option maxHeartbeats 40000000
set_option linter.all false
open Array renaming getElem?_eq_getElem->rA,getD_eq_getD_getElem?->rB,getElem?_setIfInBounds_ne->rD
open List renaming mem_cons_of_mem->rC,mem_append_left->rE,mem_cons_self->rG,mem_cons->rK
open Nat renaming eq_of_beq_eq_true->rF,le_of_ble_eq_true->rH,lt_succ_self->rL,le_refl->rM
open Go.Act renaming put->rI
open Go.Result renaming andThen_ok->rJ
open Go
namespace Go.AM
section
variable {P:Program} {F:Fence} {n:Nat} {Q:Exit->Act->World->Prop} {g:G} {call:yT} {mask:Nat} {ops:Array Oper} {S0:List DStep} {ι0:Inj} {m0:Mem} {w0:World}
variable {D:Array Bool} {rest:List DStep} {ι:Inj} {fr:Fr} {m:Mem} {top nm:Nat} {ps:List Pend} {a:Act} {w:World} {f:Fr->Mem->R}
theorem zGj {o:Oper} {d:Tmp} {v:AV} {k:Fr->R} (hd:o.dst=some d) (h:pZ fr o.dst v k=.ok):d<fr.n/\k ⟨.cons d v fr.log,fr.t,fr.n,fr.ng⟩=.ok:=by
 rw[hd] at h;exact Fr.setK_eq h
theorem Inv.norm (hO:zBS ops S0):∀ {rest:List DStep} {fr:Fr} {nm:Nat} {ps:List Pend},Inv P g call ops S0 mask ι0 m0 w0 top D rest ι fr m nm ps a w->pQ g call ops top rest fr m nm ps f=.ok->
  ∃rest' fr' nm' ps',Inv P g call ops S0 mask ι0 m0 w0 top D rest' ι fr' m nm' ps' a w/\pQ g call ops top rest' fr' m nm' ps' f=.ok/\∀s r,rest'=s::r->xC s=false
 |[],fr,nm,ps,hI,h=>⟨[],fr,nm,ps,hI,h,fun _ _ e=>by cases e⟩
 | .eff i ins chk::rest,fr,nm,ps,hI,h=>⟨_,fr,nm,ps,hI,h,fun _ _ e=>by cases e;rfl⟩
 | .two i j ins chk::rest,fr,nm,ps,hI,h=>⟨_,fr,nm,ps,hI,h,fun _ _ e=>by cases e;rfl⟩
 | .pure i::rest,fr,nm,ps,hI,h=>by
  obtain⟨pre,hpre⟩:=hI.split;have hsS:DStep.pure i∈S0:=by rw[hpre];simp
  obtain⟨o,d,ho,hp,hd⟩:=hO.pureOk i hsS;obtain⟨o',h1,h2⟩:=zF (h:zP 0 ops[i]? (fun o=>zRj (qI g call ops o fr m R.out) fun v=>pZ fr o.dst v fun fr=>zIk (zAy g call ops i fr m) (pQ g call ops top rest fr m nm ps f))=.ok);rw[ho] at h1;injection h1 with h1;subst h1
  obtain⟨v,h3⟩:=zP9 h2;obtain⟨h4,h5⟩:=zGj hd h3;obtain⟨h6,h7⟩:=zFj h5;have hI':=hI.hoist (s:=.pure i) hO rfl ho hd (v:=v) (nm':=nm) (ps':=ps) h4 (.inl ⟨rfl,rfl,i,rfl⟩) (fun j e=>by injection e with e;subst e;exact h6);exact Inv.norm hO hI' h7
 | .alloc i::rest,fr,nm,ps,hI,h=>by
  obtain⟨pre,hpre⟩:=hI.split;have hsS:DStep.alloc i∈S0:=by rw[hpre];simp
  obtain⟨o,d,ho,hd,hgd⟩:=hO.allocOk i hsS;obtain⟨o',h1,h2⟩:=zF (h:zP 0 ops[i]? (fun o=>ifB 0 (Nat.ble (Nat.succ nm) top) (pW o.op g fr fun x k=>pZ fr o.dst (zIM k nm) fun fr=>zS (Nat.succ nm) fun nx=>zIk (zLH g ops ⟨i,nm,x,k⟩ fr) (pQ g call ops top rest fr m nx (⟨i,nm,x,k⟩::ps) f)))=.ok);rw[ho] at h1;injection h1 with h1;subst h1
  obtain⟨h3,h4⟩:=zB h2;obtain⟨x,k,h5⟩:=zLW h4;obtain⟨h6,h7⟩:=zGj hd h5;rw[zN] at h7;obtain⟨h8,h9⟩:=zFj h7;have hI':=hI.hoist (s:=.alloc i) hO rfl ho hd (v:=zIM k nm) (nm':=nm+1) (ps':=⟨i,nm,x,k⟩::ps) h6 (.inr ⟨x,k,rfl,rH h3,rfl,rfl,h8⟩) (fun j e=>by cases e);exact Inv.norm hO hI' h9
theorem zY {j x:Nat} (hj:j<D.size):Dn (D.setIfInBounds j true) x↔x=j∨Dn D x:=by
 unfold Dn;by_cases e:x=j
 ·subst e;simp[hj]
 ·rw[getD_set_ne false (Ne.symm e)];simp[e]
theorem Inv.runPure (hO:zBS ops S0) (hg:GOk P g) (hflat:∀t,g.isFlat t=true->Flat P t) (hc:xY P call) (hF:Wide F) (hI:Inv P g call ops S0 mask ι0 m0 w0 top D rest ι fr m nm ps a w) {j:Nat} (hW:Waits S0 D rest (.pure j))
  (hp:∀o,ops[j]? =some o->∀e∈o.after,Region.binds .any e=true->Dn D e.on):wpOpIn F n P ops Q j (fun a' w'=>∃ι',Inv P g call ops S0 mask ι0 m0 w0 top (D.setIfInBounds j true) rest ι' fr m nm ps a' w') a w:=by
 obtain⟨o,d,ho,hpo,hd⟩:=hO.pureOk j hW.1;have hjs:j<D.size:=by rw[hI.dsize];exact z8 ho
 obtain⟨d',v,hd',hv,key⟩:=zNL (n:=n) (Q:=Q) hg hflat hc hF ho hpo hI.step.rel (hI.seen hO ho (hp o ho)) (hI.pures j hW);rw[hd] at hd';injection hd' with hd';subst hd'
 refine wpOpIn_mono (fun a' w' ⟨V,ι',e,hst,hV⟩=>?_) key;subst e;refine⟨ι',?_⟩;have hWD:∀ {s},Waits S0 (D.setIfInBounds j true) rest s->Waits S0 D rest s/\zC s≠j:=fun {s} ⟨h1,h2,h3,h4⟩=>⟨⟨h1,h2,h3,fun h=>h4 ((zY hjs).2 (.inr h))⟩,fun h=>h4 ((zY hjs).2 (.inl h))⟩
 have hdn:d<a.tmps.size:=by rw[hI.size];exact hI.low d v hv
 refine⟨hI.step.trans hst,hI.defs.step hst,by simpa[rI] using hI.size,hI.ng,hI.masked,hI.low,hI.split,by simpa using hI.dsize,fun x o' hx hox e he hb=>(zY hjs).2 (.inr ?_),fun x hx=>?_,fun s h1 h2 h3=>(zY hjs).2 (.inr (hI.effs s h1 h2 h3)),fun t x hx=>?_,
  fun j' hj'=>hI.pures j' (hWD hj').1,fun j' hj'=>?_,fun p hp'=>?_,fun p hp1 q hq1 hne=>?_,hI.once,⟨hI.names.1,fun c h1 h2=>hst.names c (by have:=hI.names.1;omega) (hI.names.2 c h1 h2)⟩⟩
 ·rcases(zY hjs).1 hx with rfl|hx
  ·exact hp o' hox e he hb
  ·exact hI.closed x o' hx hox e he hb
 ·rcases(zY hjs).1 hx with rfl|hx
  ·exact hW.2.2.1
  ·exact hI.inB x hx
 ·by_cases et:t=d
  ·subst et
   rw[hv] at hx;injection hx with hx;subst hx
   exact .inr ⟨V,hV,by simp[rI,hdn]⟩
  ·rcases hI.val t x hx with⟨s,h1,h2⟩|⟨W,h1,h2⟩
   ·refine .inl ⟨s,⟨h1.1,h1.2.1,h1.2.2.1,fun h=>?_⟩,h2⟩
    rcases(zY hjs).1 h with h|h
    ·rw[h,zBa ho,hd] at h2;injection h2 with h2;exact et h2.symm
    ·exact h1.2.2.2 h
   ·exact .inr ⟨W,qN hst.le h1,by simp only[rI];rw[rD (fun h=>et h.symm)];exact h2⟩
 ·obtain⟨p,p1,p2,p3,p4⟩:=hI.allocs j' (hWD hj').1
  exact⟨p,p1,p2,hst.names _ (by have:=(hI.pend p p1).2.2.1;have:=hI.names.1;omega) p3,p4⟩
 ·obtain⟨h1,h2,h3,h4⟩:=hI.pend p hp'
  refine⟨h1,h2,h3,fun h=>?_⟩;rcases(zY hjs).1 h with h|h
  ·have:=zCh hO h1 hW.1 h
   cases this
  ·exact(h4 h).step hst
 ·refine⟨(hI.dist p hp1 q hq1 hne).1,fun h pl ql k1 k2=>?_⟩
  obtain⟨h1,_,_,h4⟩:=hI.pend p hp1;have hDp:Dn D p.i:=by
   rcases(zY hjs).1 h with h|h
   ·have:=zCh hO h1 hW.1 h
    cases this
   ·exact h
  obtain⟨pl',l1,l2,l3,l4⟩:=h4 hDp;have:pl=pl':=by
   have:=hst.le _ _ l1;rw[k1] at this;injection this
  subst this;cases hq:ι q.b with
  |none=>
   have:=hst.names _ (by have:=(hI.pend q hq1).2.2.1;have:=hI.names.1;omega) hq;rw[k2] at this;cases this
  |some ql'=>
   have e:=hst.le _ _ hq;rw[k2] at e;injection e with e;subst e
   exact(hI.dist p hp1 q hq1 hne).2 hDp pl ql l1 hq
theorem Inv.runAlloc (hO:zBS ops S0) (hg:GOk P g) (hF:Wide F) (hI:Inv P g call ops S0 mask ι0 m0 w0 top D rest ι fr m nm ps a w) {j:Nat} (hW:Waits S0 D rest (.alloc j))
  (hp:∀o,ops[j]? =some o->∀e∈o.after,Region.binds .any e=true->Dn D e.on):wpOpIn F n P ops Q j (fun a' w'=>∃ι',Inv P g call ops S0 mask ι0 m0 w0 top (D.setIfInBounds j true) rest ι' fr m nm ps a' w') a w:=by
 obtain⟨o,d,ho,hd,hgd⟩:=hO.allocOk j hW.1;have hjs:j<D.size:=by rw[hI.dsize];exact z8 ho
 obtain⟨p0,p1,p2,p3,p4⟩:=hI.allocs j hW;subst p2;obtain⟨o',h1,h2⟩:=zF p4;rw[ho] at h1;injection h1 with h1;subst h1
 obtain⟨d',h3,h4⟩:=zF h2;rw[hd] at h3;injection h3 with h3;subst h3
 obtain⟨v,hv,h5⟩:=Fr.getK_ok h4;obtain⟨h6,h7⟩:=zB h5;obtain⟨_,h8⟩:=zB h7;have hve:=zDR 5 _ _ h6;subst hve;have hs:=hI.seen hO ho (hp o ho);rw[<-zDC (zD1 (xs:=looks ops o) |>.sub fun x hx=>rE _ hx)] at h8;obtain⟨sm,hsm,x,k,Ob,MK,e1,e2,e3,e4⟩:=zKk hg hI.step.rel hs.part h8;obtain⟨h9,h10⟩:=zB e1;have hx:=zHT h9;have hk:=zOc (zB h10).1;subst hx hk;unfold wpOpIn;rw[ho];have hw:Region.wanted o (yielded ops a.tmps)=true:=by simp[Region.wanted,hgd]
 simp only[hw,if_true];have hnd:∀c,o.op≠.defer c:=fun c hc=>by rw[hc] at h8;cases h8
 refine⟨fun _ _=>hF.fn _,?_⟩;rw[Oper.semAt_eq _ _ _ hnd,hsm];simp only[Sem.run_bind,e2,rJ,Sem.run_pure];have hnm:=(hI.pend p0 p1).2.2.1;have hnn:=hI.names.1;have hlt:p0.b<m.next:=by omega
 have hle:=Inj.le_set (p:=⟨w.heap.size,0,0,0⟩) p3;have hself:(ι.set p0.b ⟨w.heap.size,0,0,0⟩) p0.b=some ⟨w.heap.size,0,0,0⟩:=by simp[Inj.set]
 have hoth:∀b,b≠p0.b->(ι.set p0.b ⟨w.heap.size,0,0,0⟩) b=ι b:=fun b hb=>by simp[Inj.set,hb]
 have hstep:=hI.step.late (p:=⟨w.heap.size,0,0,0⟩) (o:=Ob) p3 hlt hnm.1;have hkeep:∀k,k<w.heap.size->(w.heap.push Ob)[k]? =w.heap[k]? :=fun k hk=>by rw[Array.getElem?_push,if_neg (by omega)]
 have hocc:∀k,occ (ι.set p0.b ⟨w.heap.size,0,0,0⟩) m k->occ ι m k:=fun k ⟨c,y,q,hy,hq,e⟩=>by
  refine⟨c,y,q,hy,?_,e⟩;obtain⟨q',k1,_⟩:=hI.step.rel.blk c y hy;rw[hle _ _ k1] at hq;rw[k1,hq]
 have hoccN:∀k,occ ι m k->k<w.heap.size:=fun k ⟨c,y,q,hy,hq,e⟩=>by
  obtain⟨q',k1,k2⟩:=hI.step.rel.blk c y hy;rw[hq] at k1;injection k1 with k1;subst k1
  rw[<-e];exact zBB k2
 have hWD:∀ {s},Waits S0 (D.setIfInBounds p0.i true) rest s->Waits S0 D rest s/\zC s≠p0.i:=fun {s} ⟨h1,h2,h3,h4⟩=>⟨⟨h1,h2,h3,fun h=>h4 ((zY hjs).2 (.inr h))⟩,fun h=>h4 ((zY hjs).2 (.inl h))⟩
 have hdn:d<a.tmps.size:=by rw[hI.size];exact hI.low d _ hv
 have hpe:∀p∈ps,p.i=p0.i->p=p0:=fun p hp' e=>by
  have:=hI.once;have key:∀ {l:List Pend},(l.map Pend.i).Nodup->p∈l->p0∈l->p=p0:=by
   intro l;induction l with
   |nil=>intro _ h;cases h
   |cons y l ih=>
    intro hn g1 g2;have hn:=List.nodup_cons.1 (by simpa using hn:(y.i::l.map Pend.i).Nodup);rcases rK.1 g1 with q1|g3
    ·rcases rK.1 g2 with q2|g4
     ·rw[q1,q2]
     ·exact absurd (List.mem_map.2 ⟨p0,g4,by rw[<-e,q1]⟩) hn.1
    ·rcases rK.1 g2 with q2|g4
     ·exact absurd (List.mem_map.2 ⟨p,g3,by rw[e,q2]⟩) hn.1
     ·exact ih hn.2 g3 g4
  exact key this hp' p1
 refine⟨ι.set p0.b ⟨w.heap.size,0,0,0⟩,hstep,by rw[put_defers];exact hI.defs.ext fun r ob hr' ho'=>⟨hkeep r (zA2 hr'),fun h=>ho' (hocc r h)⟩,by rw[hd];simpa[rI] using hI.size,hI.ng,hI.masked,hI.low,hI.split,by simpa using hI.dsize,
  fun x o' hx hox e he hb=>(zY hjs).2 (.inr ?_),fun x hx=>?_,fun s h1 h2 h3=>(zY hjs).2 (.inr (hI.effs s h1 h2 h3)),fun t x hx=>?_,fun j' hj'=>hI.pures j' (hWD hj').1,fun j' hj'=>?_,fun p hp'=>?_,fun p hp1 q hq1 hne=>?_,hI.once,⟨hI.names.1,fun c h1 h2=>?_⟩⟩
 ·rcases(zY hjs).1 hx with rfl|hx
  ·exact hp o' hox e he hb
  ·exact hI.closed x o' hx hox e he hb
 ·rcases(zY hjs).1 hx with rfl|hx
  ·exact hW.2.2.1
  ·exact hI.inB x hx
 ·by_cases et:t=d
  ·subst et
   rw[hv] at hx;injection hx with hx;subst hx
   exact .inr ⟨MK w.heap.size,e4 _ _ _ hself,by rw[hd];simp[rI,hdn]⟩
  ·rcases hI.val t x hx with⟨s,h1,h2⟩|⟨W,h1,h2⟩
   ·refine .inl ⟨s,⟨h1.1,h1.2.1,h1.2.2.1,fun h=>?_⟩,h2⟩
    rcases(zY hjs).1 h with h|h
    ·rw[h,zBa ho,hd] at h2;injection h2 with h2;exact et h2.symm
    ·exact h1.2.2.2 h
   ·exact .inr ⟨W,qN hle h1,by rw[hd];simp only[rI];rw[rD (fun h=>et h.symm)];exact h2⟩
 ·obtain⟨q,q1,q2,q3,q4⟩:=hI.allocs j' (hWD hj').1
  have hne:q.i≠p0.i:=by rw[q2];exact(hWD hj').2
  exact⟨q,q1,q2,by rw[hoth _ (hI.dist q q1 p0 p1 hne).1];exact q3,q4⟩
 ·obtain⟨h1,h2,h3,h4⟩:=hI.pend p hp'
  refine⟨h1,h2,h3,fun h=>?_⟩;by_cases e:p.i=p0.i
  ·have:=hpe p hp' e
   subst this;exact⟨_,hself,e3 _ _ _ hle (by simp),by have:=hI.step.size;exact this,fun ho'=>by have:=hoccN _ (hocc _ ho');simp at this⟩
  ·have hD:Dn D p.i:=((zY hjs).1 h).resolve_left e
   obtain⟨pl,l1,l2,l3,l4⟩:=h4 hD;exact⟨pl,hle _ _ l1,(l2.mono hle).at (hkeep _ (zBB l2)),l3,fun h=>l4 (hocc _ h)⟩
 ·refine⟨(hI.dist p hp1 q hq1 hne).1,fun h pl ql k1 k2=>?_⟩
  have hnb:=(hI.dist p hp1 q hq1 hne).1;have plc:∀r∈ps,r.i≠p0.i->∀rl,(ι.set p0.b ⟨w.heap.size,0,0,0⟩) r.b=some rl->ι r.b=some rl:=fun r hr1 hr2 rl hr3=>by rw[hoth _ (hI.dist r hr1 p0 p1 hr2).1] at hr3;exact hr3
  by_cases ep:p.i=p0.i
  ·have:=hpe p hp1 ep
   subst this;rw[hself] at k1;injection k1 with k1;subst k1
   have k3:=plc q hq1 (fun e=>hne e.symm) ql k2;have hDq:Dn D q.i∨¬Dn D q.i:=Classical.em _;rcases hDq with hDq|hDq
   ·obtain⟨ql',l1,l2,_⟩:=(hI.pend q hq1).2.2.2 hDq
    rw[k3] at l1;injection l1 with l1;subst l1
    have:=zBB l2;simp;omega
   ·have hWq:Waits S0 D rest (.alloc q.i):=⟨(hI.pend q hq1).1,rfl,(hI.pend q hq1).2.1,hDq⟩
    obtain⟨r,r1,r2,r3,_⟩:=hI.allocs q.i hWq;have:r=q:=by
     have key:∀ {l:List Pend},(l.map Pend.i).Nodup->r∈l->q∈l->r=q:=by
      intro l;induction l with
      |nil=>intro _ h;cases h
      |cons y l ih=>
       intro hn g1 g2;have hn:=List.nodup_cons.1 (by simpa using hn:(y.i::l.map Pend.i).Nodup);rcases rK.1 g1 with q1|g3
       ·rcases rK.1 g2 with q2|g4
        ·rw[q1,q2]
        ·exact absurd (List.mem_map.2 ⟨q,g4,by rw[<-r2,q1]⟩) hn.1
       ·rcases rK.1 g2 with q2|g4
        ·exact absurd (List.mem_map.2 ⟨r,g3,by rw[r2,q2]⟩) hn.1
        ·exact ih hn.2 g3 g4
     exact key hI.once r1 hq1
    subst this;rw[k3] at r3;cases r3
  ·have hDp:Dn D p.i:=((zY hjs).1 h).resolve_left ep
   have k1':=plc p hp1 ep pl k1;by_cases eq:q.i=p0.i
   ·have:=hpe q hq1 eq
    subst this;rw[hself] at k2;injection k2 with k2;subst k2
    obtain⟨pl',l1,l2,_⟩:=(hI.pend p hp1).2.2.2 hDp;rw[k1'] at l1;injection l1 with l1;subst l1
    have:=zBB l2;simp;omega
   ·exact(hI.dist p hp1 q hq1 hne).2 hDp pl ql k1' (plc q hq1 eq ql k2)
 ·rw[hoth c (by omega)];exact hI.names.2 c h1 h2
theorem Inv.runEff (hO:zBS ops S0) (hg:GOk P g) (hflat:∀t,g.isFlat t=true->Flat P t) (hc:xY P call) (hF:Wide F) {i:Nat} {ins chk:List Nat} {s:DStep} (_hs:xC s=false) (hsi:zC s=i) (hins:∀x∈ins,anc (masks ops) i x=true) (hanew:∀pre,S0=pre++s::rest->∀j,DStep.pure j∈pre->j∈chk∨anc (masks ops) i j=true)
  (hI:Inv P g call ops S0 mask ι0 m0 w0 top D (s::rest) ι fr m nm ps a w)
  (h:zA4 ins ps m (fun ps m=>zP 0 ops[i]? fun o=>qI g call ops o fr m fun v m=>pZ fr o.dst v fun fr=>zBN g call ops chk fr m (pQ g call ops top rest fr m nm ps f))=.ok) (hp:∀o,ops[i]? =some o->∀e∈o.after,Region.binds .any e=true->Dn D e.on):
  wpOpIn F n P ops Q i (fun a' w'=>∃ι' fr' m' ps',Inv P g call ops S0 mask ι0 m0 w0 top (D.setIfInBounds i true) rest ι' fr' m' nm ps' a' w'/\pQ g call ops top rest fr' m' nm ps' f=.ok) a w:=by
 obtain⟨pre,hpre⟩:=hI.split;have hsS:s∈S0:=by rw[hpre];simp
 subst hsi;have hnr:(zC s)∉rest.map zC:=by
  have:=hO.nodup;rw[hpre] at this;simp only[List.map_append,List.map_cons] at this;exact(List.nodup_cons.1 (List.nodup_append.1 this).2.1).1
 have hnD:¬Dn D (zC s):=fun h=>hI.inB _ h (by simp)
 have hop:∃o,ops[(zC s)]? =some o:=by
  have hx:∀ {ps:List Pend} {m:Mem} {k:List Pend->Mem->R},zA4 ins ps m k=.ok->∃ps m,k ps m=.ok:=by
   intro ps;induction ps with
   |nil=>intro m k h;exact⟨_,_,h⟩
   |cons p ps ih=>
    intro m k h;have h:iteB (zA9 p.i ins) (zAq m p.b p.x fun m=>zA4 ins ps m k) (zA4 ins ps m fun ps m=>k (p::ps) m)=.ok:=h;rw[zV] at h;split at h
    ·obtain⟨t',h1,_⟩:=T.setK_ok (h:m.t.setK p.b p.x (fun t=>zA4 ins ps ⟨m.next,t⟩ k)=.ok)
     exact ih h1
    ·obtain⟨_,_,h1⟩:=ih h;exact⟨_,_,h1⟩
  obtain⟨_,_,h1⟩:=hx h;obtain⟨o,h2,_⟩:=zF h1;exact⟨o,h2⟩
 obtain⟨o,ho⟩:=hop;have hpo:=hp o ho;have his:(zC s)<D.size:=by rw[hI.dsize];exact z8 ho
 have hinsD:∀p∈ps,zA9 p.i ins=true->Dn D p.i:=fun p _ hm=>hI.ancD hO ho hpo (hins p.i (zDf.1 hm))
 obtain⟨m1,h1,hn1,hs1,hocc1⟩:=zCs h hI.step (fun p hp' hm=>(hI.pend p hp').2.2.2 (hinsD p hp' hm)) (fun p hp1 q hq1 hne hm=>(hI.dist p hp1 q hq1 hne).2 (hinsD p hp1 hm)) hI.once;obtain⟨o',h2,h3⟩:=zF h1;rw[ho] at h2;injection h2 with h2;subst h2
 have hdefs1:zAQ w0.heap.size ι m1 w a.defers:=hI.defs.ext fun r ob hr' ho'=>⟨rfl,fun hh=>by
  rcases hocc1 r hh with hh|⟨p,_,_,pl,_,k2,k3⟩
  ·exact ho' hh
  ·subst k3;exact zB3 k2 hr'⟩
 have hmade1:∀p∈ps,zA9 p.i ins=false->Dn D p.i->Made P ι m1 w w0.heap.size p:=fun p hp' hm hD=>by
  obtain⟨pl,k1,k2,k3,k4⟩:=(hI.pend p hp').2.2.2 hD;refine⟨pl,k1,k2,k3,fun hh=>?_⟩;rcases hocc1 _ hh with hh|⟨q,q1,q2,ql,l1,l2,l3⟩
  ·exact k4 hh
  ·have hne:p.i≠q.i:=fun e=>by rw[e,q2] at hm;cases hm
   exact(hI.dist p hp' q q1 hne).2 hD pl ql k1 l1 l3.symm
 refine wpOpIn_mono (fun a' w' ⟨V,v,ι',m',e,h4,hst,hV⟩=>?_) (zJI (n:=n) (Q:=Q) hg hflat hc hF ho hs1.rel (hI.seen hO ho hpo) h3);subst e;have hfr:∃fr',zBN g call ops chk fr' m' (pQ g call ops top rest fr' m' nm (ps.filter fun p=>!zA9 p.i ins) f)=.ok/\fr'.n=fr.n/\fr'.ng=fr.ng/\fr'.masked mask/\(∀d,o.dst=some d->d<fr.n)/\
   (∀t,(o.dst≠some t->fr'.find t=fr.find t)/\(o.dst=some t->fr'.find t=some v)):=by
  cases hd:o.dst with
  |none=>
   rw[hd] at h4;exact⟨fr,h4,rfl,rfl,hI.masked,(fun _ e=>by cases e),fun t=>⟨fun _=>rfl,(fun e=>by cases e)⟩⟩
  |some d=>
   obtain⟨k1,k2⟩:=zGj hd h4;refine⟨_,k2,rfl,rfl,fun k x hx=>hI.masked k x hx,fun d' e=>by injection e with e;subst e;exact k1,fun t=>⟨fun e=>?_,fun e=>?_⟩⟩
   ·rw[zAf,if_neg fun h=>e (by rw[h])]
   ·injection e with e;rw[zAf,if_pos e]
 obtain⟨fr',h5,hn',hng',hmk',hdlt,hfind⟩:=hfr;obtain⟨h6,h7⟩:=zHS h5;refine⟨ι',fr',m',_,?_,h6⟩;have hle:=hst.le;have hWD:∀ {q},Waits S0 (D.setIfInBounds (zC s) true) rest q->Waits S0 D (s::rest) q/\zC q≠zC s:=fun {q} ⟨g1,g2,g3,g4⟩=>by
  have hne:zC q≠zC s:=fun h=>g4 ((zY his).2 (.inl h))
  exact⟨⟨g1,g2,by simp only[List.map_cons,rK,not_or];exact⟨hne,g3⟩,fun h=>g4 ((zY his).2 (.inr h))⟩,hne⟩
 have hfree:∀ {q},Waits S0 D (s::rest) q->zC q≠zC s->∀oj d',ops[zC q]? =some oj->oj.dst=some d'->fr'.find d'=fr.find d'/\∀t,Operand.tmp t∈looks ops oj->fr'.find t=fr.find t:=fun {q} hW hne oj d' hj hd'=>by
  obtain⟨g1,g2,g3,g4⟩:=hW;have hpre':q∈pre:=by
   rw[hpre] at g1;rcases List.mem_append.1 g1 with h|h
   ·exact h
   ·exact absurd (List.mem_map.2 ⟨_,h,rfl⟩) g3
  refine⟨(hfind d').1 fun e=>?_,fun t ht=>(hfind t).1 fun e=>?_⟩
  ·exact hO.uniq q g1 g2 (zC s) o oj d' (Ne.symm hne) ho hj hd' e
  ·have:=(hO.free pre s rest hpre q hpre' g2 o oj t ho hj e ht).2
   exact g4 (hI.ancD hO ho hpo this)
 have hpf:∀ {p},p∈ps.filter (fun p=>!zA9 p.i ins)->p∈ps/\zA9 p.i ins=false:=fun {p} h=>by simpa using h
 refine⟨hs1.trans hst,by rw[put_defers];exact hdefs1.step hst,by rw[hn'];cases o.dst<;>simpa[rI] using hI.size,by rw[hng'];exact hI.ng,hmk',fun t x hx=>?_,⟨pre++[s],by simp[hpre]⟩,by simpa using hI.dsize,fun x o' hx hox e he hb=>(zY his).2 (.inr ?_),fun x hx hx'=>?_,
  fun q g1 g2 g3=>?_,fun t x hx=>?_,fun j hj=>?_,fun j hj=>?_,fun p hp'=>?_,fun p hp1 q hq1 hne=>?_,?_,⟨⟨hI.names.1.1,hI.names.1.2.1,by have:=hI.names.1.2.2;have:=hst.next;omega⟩,fun c g1 g2=>hst.names c (by have:=hI.names.1;omega) (hI.names.2 c g1 g2)⟩⟩
 ·rw[hn']
  by_cases e:o.dst=some t
  ·exact hdlt t e
  ·rw[(hfind t).1 e] at hx;exact hI.low t x hx
 ·rcases(zY his).1 hx with rfl|hx
  ·exact hp o' hox e he hb
  ·exact hI.closed x o' hx hox e he hb
 ·rcases(zY his).1 hx with rfl|hx
  ·exact hnr hx'
  ·exact hI.inB x hx (rC _ hx')
 ·by_cases e:zC q=zC s
  ·exact(zY his).2 (.inl e)
  ·exact(zY his).2 (.inr (hI.effs q g1 g2 (by simp only[List.map_cons,rK,not_or];exact⟨e,g3⟩)))
 ·by_cases e:o.dst=some t
  ·rw[(hfind t).2 e] at hx;injection hx with hx;subst hx
   exact .inr ⟨V,hV,by rw[e];simp[rI,hI.size,hdlt t e]⟩
  ·rw[(hfind t).1 e] at hx
   rcases hI.val t x hx with⟨q,⟨g1,g2,g3,g4⟩,g5⟩|⟨W,g1,g2⟩
   ·refine .inl ⟨q,⟨g1,g2,fun h=>g3 (rC _ h),fun h=>?_⟩,g5⟩
    rcases(zY his).1 h with h|h
    ·exact g3 (by rw[h];exact rK.2 (.inl rfl))
    ·exact g4 h
   ·refine .inr ⟨W,qN hle g1,?_⟩
    cases hd:o.dst with
    |none=>exact g2
    |some d=>simp only[rI];rw[rD (fun h=>e (by rw[hd,h]))];exact g2
 ·obtain⟨g1,g2⟩:=hWD hj
  have hpre':DStep.pure j∈pre:=by
   have:=g1.1;rw[hpre] at this;rcases List.mem_append.1 this with h|h
   ·exact h
   ·exact absurd (List.mem_map.2 ⟨_,h,rfl⟩) g1.2.2.1
  rcases hanew pre hpre j hpre' with h|h
  ·exact h7 j h
  ·exact absurd (hI.ancD hO ho hpo h) g1.2.2.2
 ·obtain⟨g1,g2⟩:=hWD hj
  obtain⟨p,p1,p2,p3,p4⟩:=hI.allocs j g1;have hmb:zA9 p.i ins=false:=by
   cases hm:zA9 p.i ins with
   |false=>rfl
   |true=>exact absurd (p2▸hinsD p p1 hm) g1.2.2.2
  refine⟨p,by simp[p1,hmb],p2,hst.names _ (by have:=(hI.pend p p1).2.2.1;have:=hI.names.1;omega) p3,?_⟩;subst p2;rw[zGC (fr:=fr) (fr':=fr') (p:=p) hng' (fun oj d' hj hd'=>hfree g1 g2 oj d' hj hd')];exact p4
 ·obtain⟨hp1,hp2⟩:=hpf hp'
  obtain⟨g1,g2,g3,g4⟩:=hI.pend p hp1;refine⟨g1,fun h=>g2 (rC _ h),g3,fun h=>?_⟩;rcases(zY his).1 h with h|h
  ·exact absurd (by simp[h]) g2
  ·exact(hmade1 p hp1 hp2 h).step hst
 ·obtain⟨hp1,hp2⟩:=hpf hp1
  obtain⟨hq1,hq2⟩:=hpf hq1;refine⟨(hI.dist p hp1 q hq1 hne).1,fun h pl ql k1 k2=>?_⟩;obtain⟨g1,g2,_,g4⟩:=hI.pend p hp1;have hDp:Dn D p.i:=by
   rcases(zY his).1 h with h|h
   ·exact absurd (by simp[h]) g2
   ·exact h
  obtain⟨pl',l1,l2,l3,l4⟩:=g4 hDp;have e:=hle _ _ l1;rw[k1] at e;injection e with e;subst e
  cases hq:ι q.b with
  |none=>
   have:=hst.names _ (by have:=(hI.pend q hq1).2.2.1;have:=hI.names.1;omega) hq;rw[k2] at this;cases this
  |some ql'=>
   have e:=hle _ _ hq;rw[k2] at e;injection e with e;subst e
   exact(hI.dist p hp1 q hq1 hne).2 hDp pl ql l1 hq
 ·have:((ps.filter fun p=>!zA9 p.i ins).map Pend.i).Sublist (ps.map Pend.i):=(List.filter_sublist).map _
  exact this.nodup hI.once
theorem zOC (hO:zBS ops S0) (hI:Inv P g call ops S0 mask ι0 m0 w0 top D rest ι fr m nm ps a w) (hr:Region.ready .any ops D=[]):∀i,i<ops.size->Dn D i:=by
 intro i;induction i using Nat.strongRecOn with
 |_ i ih=>
  intro hi;apply Classical.byContradiction;intro hn;have ho:ops[i]? =some ops[i]:=rA hi;have hm:i∈Region.ready .any ops D:=mem_ready.2 ⟨by
   unfold Dn at hn;rw[rB] at hn ⊢;have:i<D.size:=by rw[hI.dsize];exact hi
   rw[rA this] at hn ⊢
   simpa using hn,ops[i],ho,fun e he hb=>ih e.on (hO.back i _ ho e he hb) (Nat.lt_trans (hO.back i _ ho e he hb) hi)⟩
  rw[hr] at hm;cases hm
theorem Inv.done (_hO:zBS ops S0) (hI:Inv P g call ops S0 mask ι0 m0 w0 top D rest ι fr m nm ps a w) (h:pQ g call ops top rest fr m nm ps f=.ok) (hall:∀i,i<ops.size->Dn D i) (hK:∀a w ι fr m,f fr m=.ok->St P mask ι0 m0 w0 ι fr m a w->Q .normal a w)
  (hlow:∀s∈S0,zC s<ops.size):Q .normal a w:=by
 cases rest with
 |cons s rest=>
  obtain⟨pre,hpre⟩:=hI.split;exact absurd (by simp) (hI.inB _ (hall _ (hlow s (by rw[hpre];simp))))
 |nil=>
  have h:zA4 (ps.map Pend.i) ps m (fun _ m=>f fr m)=.ok:=h;have hD:∀p∈ps,Dn D p.i:=fun p hp=>hall _ (hlow _ (hI.pend p hp).1)
  obtain⟨m1,h1,hn1,hs1,hocc1⟩:=zCs h hI.step (fun p hp' _=>(hI.pend p hp').2.2.2 (hD p hp')) (fun p hp1 q hq1 hne _=>(hI.dist p hp1 q hq1 hne).2 (hD p hp1)) hI.once;refine hK a w ι fr m1 h1 ⟨hs1,⟨hI.size,hI.ng,hI.masked,fun t x hx=>?_⟩,hI.defs.ext fun r ob hr' ho'=>⟨rfl,fun hh=>?_⟩⟩
  ·rcases hI.val t x hx with⟨s,⟨g1,_,_,g4⟩,_⟩|h
   ·exact absurd (hall _ (hlow s g1)) g4
   ·exact h
  ·rcases hocc1 r hh with hh|⟨p,_,_,pl,_,k2,k3⟩
   ·exact ho' hh
   ·subst k3;exact zB3 k2 hr'
theorem zMz {oi oj:Oper} {k:R} (h:zCP oi oj fr m k=.ok):k=.ok:=by
 unfold zCP at h;split at h<;>first|(cases h;done)|skip
 obtain⟨p,h1⟩:=zHe h;obtain⟨q,h2⟩:=zHe h1;split at h2<;>first|(cases h2;done)|skip
 obtain⟨_,h3⟩:=zB h2;obtain⟨y,_,h4⟩:=T.getK_ok (h3:m.t.getK _ _=.ok);obtain⟨z,_,h5⟩:=T.getK_ok (h4:m.t.getK _ _=.ok);split at h5<;>first|(cases h5;done)|skip
 exact(zB h5).2
theorem zIu {D:Array Bool} {x:Nat} (hx:x<D.size) (h:¬Dn D x):0<D.toList.count false:=by
 have hf:D[x]=false:=by
  unfold Dn at h;rw[rB,rA hx] at h
  simpa using h
 exact List.count_pos_iff.2 (by rw[<-hf,<-Array.getElem_toList];exact List.getElem_mem _)
theorem zMH {D:Array Bool} {x:Nat} (hx:x<D.size) (h:¬Dn D x):(D.setIfInBounds x true).toList.count false+1=D.toList.count false:=by
 have hpos:=zIu hx h;have hf:D[x]=false:=by
  unfold Dn at h;rw[rB,rA hx] at h
  simpa using h
 rw[Array.toList_setIfInBounds,List.count_set (by simpa using hx)];have hf2:D.toList[x]'(by simpa using hx)=false:=by rw[Array.getElem_toList];exact hf
 rw[hf2];have e2:((if(false==false)=true then 1 else 0):Nat)=1:=rfl;have e3:((if(true==false)=true then 1 else 0):Nat)=0:=rfl;rw[e2,e3];omega
theorem zNC (hO:zBS ops S0) (hsz:D.size=ops.size) (hr:Region.ready .any ops D=[]):∀i,i<ops.size->Dn D i:=by
 intro i;induction i using Nat.strongRecOn with
 |_ i ih=>
  intro hi;apply Classical.byContradiction;intro hn;have ho:ops[i]? =some ops[i]:=rA hi;have hm:i∈Region.ready .any ops D:=mem_ready.2 ⟨by
   unfold Dn at hn;rw[rB] at hn ⊢;have:i<D.size:=by rw[hsz];exact hi
   rw[rA this] at hn ⊢
   simpa using hn,ops[i],ho,fun e he hb=>ih e.on (hO.back i _ ho e he hb) (Nat.lt_trans (hO.back i _ ho e he hb) hi)⟩
  rw[hr] at hm;cases hm
theorem Inv.idx (hO:zBS ops S0) (hg:GOk P g) (hI:Inv P g call ops S0 mask ι0 m0 w0 top D rest ι fr m nm ps a w) {x:Nat} (hW:Waits S0 D rest (.pure x)) (hx:zM9 ops x=true)
  (hp:∀o,ops[x]? =some o->∀e∈o.after,Region.binds .any e=true->Dn D e.on):
  ∃o t y z V,ops[x]? =some o/\o.op=.indexAddr t y z/\o.guard=none/\∀w2:World,(Instr.indexAt t (a.eval y) (a.eval z)).run P w2=.ok V w2:=by
 unfold zM9 at hx;split at hx
 ·rename_i o ho
  simp only[Bool.and_eq_true,Option.isNone_iff_eq_none] at hx;obtain⟨⟨h1,h2⟩,h3⟩:=hx;split at h1
  ·rename_i t y z hop
   have hc:=hI.pures x hW;obtain⟨o',e1,k1⟩:=zF (hc:zP 0 ops[x]? (fun o=>zP 0 o.dst fun d=>fr.getK d fun v=>qI g call ops o fr m fun v' m'=>ifB 0 (eqB 5 v v') (ifB 0 (Nat.beq m'.next m.next) .ok))=.ok);rw[ho] at e1;injection e1 with e1;subst e1
   obtain⟨d,hd,k2⟩:=zF k1;obtain⟨v0,_,k3⟩:=Fr.getK_ok k2;unfold qI at k3;rw[h2] at k3;have k4:opK o.op g call fr m (fun v' m'=>ifB 0 (eqB 5 v0 v') (ifB 0 (Nat.beq m'.next m.next) .ok))=.ok:=k3;rw[hop] at k4;have hs:=hI.seen hO ho (hp o ho);obtain⟨u,k5,hu⟩:=zCq hI.step.rel hs (x:=y) (by simp[looks,hop,Op.operands]) (k4:ev y fr (fun x=>ev z fr fun i=>zDK g t x i fun v=>ifB 0 (eqB 5 v0 v) (ifB 0 (Nat.beq m.next m.next) .ok))=.ok);obtain⟨v,k6,hv⟩:=zCq hI.step.rel hs (x:=z) (by simp[looks,hop,Op.operands]) k5;obtain⟨r,V,q1,q2,_⟩:=zBR (w:=w) hg hu hv k6;refine⟨o,t,y,z,V,ho,hop,h2,fun w2=>?_⟩;obtain⟨r',V',q1',q2',q3'⟩:=zBR (w:=w2) hg hu hv k6;have e1:=zDR 5 _ _ (zB q1).1;have e2:=zDR 5 _ _ (zB q1').1;rw[<-e1] at q2;rw[<-e2,q2] at q2';injection q2' with q2'
   rw[q3',q2']
  ·cases h1
 ·cases hx
theorem zRO {x:Nat} {o:Oper} {t:TypeId} {y z:Operand} {V:Value} {K:Act->World->Prop} (ho:ops[x]? =some o) (hop:o.op=.indexAddr t y z) (hgd:o.guard=none) (hF:Wide F)
  (h:(Instr.indexAt t (a.eval y) (a.eval z)).run P w=.ok V w) (hK:K (a.put o.dst V) w):wpOpIn F n P ops Q x K a w:=by
 unfold wpOpIn;rw[ho];have hw:Region.wanted o (yielded ops a.tmps)=true:=by simp[Region.wanted,hgd]
 simp only[hw,if_true];refine⟨fun _ _=>hF.fn _,?_⟩;rw[Oper.semAt_eq _ _ _ fun c hc=>by rw[hop] at hc;cases hc];simp only[execOp,hop,Sem.run_bind,h,rJ,Sem.run_pure];exact hK
theorem zMD {x:Nat} {o:Oper} {t:TypeId} {y z:Operand} {V:Value} {K:Act->World->Prop} (ho:ops[x]? =some o) (hop:o.op=.indexAddr t y z) (hgd:o.guard=none)
  (h:(Instr.indexAt t (a.eval y) (a.eval z)).run P w=.ok V w) (hK:wpOpIn F n P ops Q x K a w):K (a.put o.dst V) w:=by
 unfold wpOpIn at hK;rw[ho] at hK;have hw:Region.wanted o (yielded ops a.tmps)=true:=by simp[Region.wanted,hgd]
 simp only[hw,if_true] at hK;have hK:=hK.2;rw[Oper.semAt_eq _ _ _ fun c hc=>by rw[hop] at hc;cases hc] at hK;simp only[execOp,hop,Sem.run_bind,h,rJ,Sem.run_pure] at hK;exact hK
theorem zDm {o:Oper} {V:Value} {x:Operand} (h:∀d,o.dst=some d->x≠.tmp d):(a.put o.dst V).eval x=a.eval x:=by
 cases hd:o.dst with
 |none=>rfl
 |some d=>
  have hne:=h d hd;cases x with
  |tmp t=>
   have:d≠t:=fun e=>hne (by rw[e])
   simp[rI,Act.eval,rD this]
  |_=>rfl
theorem zMd (hO:zBS ops S0) (hg:GOk P g) (hflat:∀t,g.isFlat t=true->Flat P t) (hc:xY P call) (hF:Wide F) {i j:Nat} {ins chk:List Nat} {oj:Oper} {tj:TypeId} {xj yj:Operand} (hoj:ops[j]? =some oj) (hopj:oj.op=.store tj xj yj) (hgj:oj.guard=none) (hdj:oj.dst=none):
  ∀(k:Nat) {D:Array Bool} {rest:List DStep} {ι:Inj} {fr:Fr} {m:Mem} {nm:Nat} {ps:List Pend} {a:Act} {w w':World},
  (∀k'<k,∀ {D:Array Bool} {post:List DStep} {ι:Inj} {fr:Fr} {m:Mem} {nm:Nat} {ps:List Pend} {a:Act} {w:World},D.toList.count false<=k'->Inv P g call ops S0 mask ι0 m0 w0 top D post ι fr m nm ps a w->pQ g call ops top post fr m nm ps f=.ok->
   wpAnyIn F n P .any ops Q k' D a w)->
  (D.setIfInBounds j true).toList.count false<=k->Inv P g call ops S0 mask ι0 m0 w0 top D (.two i j ins chk::rest) ι fr m nm ps a w->pQ g call ops top (.two i j ins chk::rest) fr m nm ps f=.ok->
  (∀e∈oj.after,Region.binds .any e=true->Dn D e.on)->(Instr.storeAt tj (a.eval xj) (a.eval yj)).run P w=.ok () w'->
  wpAnyIn F n P .any ops Q k (D.setIfInBounds j true) a w':=by
 intro k;induction k with
 |zero=>
  intro D rest ι fr m nm ps a w w' _ hcnt hI h hpj hst;exfalso;obtain⟨pre,hpre⟩:=hI.split;obtain⟨⟨chk2,post,hrest,_⟩,_,_,_,hsi,_,_⟩:=hO.two pre i j ins chk rest hpre;subst hrest;obtain⟨oi,_,_,_,hoi,_⟩:=zBV hsi;have hnd:=hO.nodup;rw[hpre,List.map_append] at hnd;have hij:i≠j:=fun e=>by
   have:=(List.nodup_cons.1 ((List.nodup_append.1 hnd).2.1:(i::j::post.map zC).Nodup)).1;simp[e,zC] at this
  have hjD:j<D.size:=by rw[hI.dsize];exact z8 hoj
  have:=zIu (D:=D.setIfInBounds j true) (x:=i) (by simp only[Array.size_setIfInBounds];rw[hI.dsize];exact z8 hoi) fun hh=>by
   rcases(zY hjD).1 hh with e|hh
   ·exact hij e
   ·exact hI.inB _ hh (by simp[zC])
  omega
 |succ k ihk=>
  intro D rest ι fr m nm ps a w w' ih hcnt hI h hpj hst;obtain⟨pre,hpre⟩:=hI.split;obtain⟨⟨chk2,post,hrest,hpost⟩,hpure,halloc,hins2,hsi,hsj,hpred⟩:=hO.two pre i j ins chk rest hpre;subst hrest;obtain⟨oi,ti,xi,yi,hoi,hopi,hgi,hdi⟩:=zBV hsi;have hnd:=hO.nodup;rw[hpre,List.map_append] at hnd;obtain⟨_,hnd2,hdisj⟩:=List.nodup_append.1 hnd;have hij:i≠j:=fun e=>by
   have:=(List.nodup_cons.1 (hnd2:(i::j::post.map zC).Nodup)).1;simp[e,zC] at this
  have hpj':∀o,ops[j]? =some o->∀e∈o.after,Region.binds .any e=true->Dn D e.on:=fun o ho=>by
   rw[hoj] at ho;injection ho with ho;subst ho;exact hpj
  have hnotin:∀p∈pre,zC p∉(DStep.two i j ins chk::.eff j [] chk2::post).map zC:=fun p hp' hx=>hdisj _ (List.mem_map.2 ⟨p,hp',rfl⟩) _ hx rfl
  have hjpre:j∉pre.map zC:=fun hh=>hdisj _ hh j (by simp[zC]) rfl
  have hnDi:¬Dn D i:=fun hh=>hI.inB _ hh (by simp[zC])
  have hnDj:¬Dn D j:=fun hh=>hI.inB _ hh (by simp[zC])
  have hiD:i<D.size:=by rw[hI.dsize];exact z8 hoi
  have hjD:j<D.size:=by rw[hI.dsize];exact z8 hoj
  have hpreD:∀p∈pre,Dn D (zC p)∨∃x,p=.pure x/\zM9 ops x=true/\∀o,ops[x]? =some o->∀e∈o.after,Region.binds .any e=true->e.on∈pre.map zC:=fun p hp'=>by
   cases p with
   |pure x=>
    rcases(hpure x hp').2 with h1|h1
    ·exact .inl (hI.ancD hO hoj hpj h1)
    ·exact .inr ⟨x,rfl,h1⟩
   |alloc x=>exact .inl (hI.ancD hO hoj hpj (halloc x hp').2)
   |eff x u v=>exact .inl (hI.effs _ (by rw[hpre];exact rE _ hp') rfl (hnotin _ hp'))
   |two x u v z=>exact .inl (hI.effs _ (by rw[hpre];exact rE _ hp') rfl (hnotin _ hp'))
  have hclosed:∀x o,Dn (D.setIfInBounds j true) x->ops[x]? =some o->∀e∈o.after,Region.binds .any e=true->Dn (D.setIfInBounds j true) e.on:=fun x o hx ho e he hb=>(zY hjD).2 (.inr (by
   rcases(zY hjD).1 hx with rfl|hx
   ·exact hpj' o ho e he hb
   ·exact hI.closed x o hx ho e he hb))
  refine⟨fun hr=>?_,fun x hx=>?_⟩
  ·exfalso
   rcases(zY hjD).1 (zNC hO (by simpa using hI.dsize) hr i (z8 hoi)) with e|hh
   ·exact hij e
   ·exact hnDi hh
  obtain⟨hun,o,ho,hpo⟩:=mem_ready.1 hx;have hxs:x<(D.setIfInBounds j true).size:=by simp only[Array.size_setIfInBounds];rw[hI.dsize];exact z8 ho
  have hnx:¬Dn (D.setIfInBounds j true) x:=by
   unfold Dn;rw[rB,rA hxs] at hun ⊢
   simpa using hun
  have hcx:=zMH hxs hnx;obtain⟨s,hs,hse⟩:=List.mem_map.1 (hO.cover x (z8 ho));have hsS:=hs;rw[hpre] at hs;rcases List.mem_append.1 hs with hs|hs
  ·
   rcases hpreD s hs with hd|⟨x',e,hidx,hpp⟩
   ·rw[hse] at hd;exact absurd ((zY hjD).2 (.inr hd)) hnx
   subst e;have hse:x'=x:=hse;subst hse;have hW:Waits S0 D (.two i j ins chk::.eff j [] chk2::post) (.pure x'):=⟨hsS,rfl,hnotin _ hs,fun hh=>hnx ((zY hjD).2 (.inr hh))⟩;have hpx:∀o,ops[x']? =some o->∀e∈o.after,Region.binds .any e=true->Dn D e.on:=fun o' ho' e he hb=>by
    have hm:=hpp o' ho' e he hb;rw[ho] at ho';injection ho' with ho';subst ho'
    rcases(zY hjD).1 (hpo e he hb) with hh|hh
    ·rw[hh] at hm;exact absurd hm hjpre
    ·exact hh
   obtain⟨o',t,y,z,V,ho',hop,hgd,hV⟩:=hI.idx hO hg hW hidx hpx;obtain⟨ι',hI2⟩:=zMD ho' hop hgd (hV w) (hI.runPure (F:=F) (n:=n) (Q:=fun _ _ _=>False) hO hg hflat hc hF hW hpx);refine zRO ho' hop hgd hF (hV w') ?_;have hxj:x'≠j:=fun e=>hnx ((zY hjD).2 (.inl e))
   rw[Array.setIfInBounds_comm _ _ (Ne.symm hxj)];rw[Array.setIfInBounds_comm _ _ (Ne.symm hxj)] at hcx;have hx'D:x'<D.size:=by rw[hI.dsize];exact z8 ho
   have hev:∀u,Operand.tmp u∈looks ops oj->o'.dst≠some u:=fun u hu hd=>hnx ((zY hjD).2 (.inr (hI.ancD hO hoj hpj (hO.seen _ hsS rfl j oj o' u hoj ho' hd hu))))
   refine ihk (fun k' hk'=>ih k' (by omega)) (by omega) hI2 h (fun e he hb=>(zY hx'D).2 (.inr (hpj e he hb))) ?_;rw[zDm fun d hd e=>hev d (by rw[<-e];simp[looks,hopj,Op.operands]) hd,zDm fun d hd e=>hev d (by rw[<-e];simp[looks,hopj,Op.operands]) hd];exact hst
  rcases rK.1 hs with e|hs
  ·
   subst e;have hse:i=x:=hse;subst hse;have hpi:∀o,ops[i]? =some o->∀e∈o.after,Region.binds .any e=true->Dn D e.on:=fun o' ho' e he hb=>by
    have hm:=hpred o' ho' e he hb;rw[ho] at ho';injection ho' with ho';subst ho'
    rcases(zY hjD).1 (hpo e he hb) with hh|hh
    ·rw[hh] at hm;exact absurd hm hjpre
    ·exact hh
   obtain⟨ps1,m1,hins⟩:=zAs (ins:=ins) ps m;have h0:zA4 ins ps m (fun ps m=>zP 0 ops[i]? fun o=>zP 0 ops[j]? fun oj=>zCP o oj fr m (qI g call ops o fr m fun v m=>pZ fr o.dst v fun fr=>zBN g call ops chk fr m (pQ g call ops top (.eff j [] chk2::post) fr m nm ps f)))=.ok:=h;rw[hins] at h0;obtain⟨o',e1,h1⟩:=zF h0;rw[hoi] at e1;injection e1 with e1;subst e1
   obtain⟨o',e1,h2⟩:=zF h1;rw[hoj] at e1;injection e1 with e1;subst e1
   have hinsD:∀p∈ps,zA9 p.i ins=true->Dn D p.i:=fun p _ hm=>hI.ancD hO hoj hpj (hins2 p.i (zDf.1 hm)).2
   have hstep1:Step P ι0 m0 w0 ι m1 w:=by
    classical
    have hk:zA4 ins ps m (fun _ m=>if m=m1 then R.ok else .bad 0)=.ok:=by rw[hins,if_pos rfl]
    obtain⟨m2,k1,_,k2,_⟩:=zCs hk hI.step (fun p hp' hm=>(hI.pend p hp').2.2.2 (hinsD p hp' hm)) (fun p hp1 q hq1 hne hm=>(hI.dist p hp1 q hq1 hne).2 (hinsD p hp1 hm)) hI.once;split at k1
    ·rename_i e;rw[<-e];exact k2
    ·cases k1
   have hap:=h2;unfold zCP at h2;rw[hopi,hopj] at h2;obtain⟨p,h3,hcp⟩:=zCq hstep1.rel (hI.seen hO hoi (hpi oi hoi)) (x:=xi) (by simp[looks,hopi,Op.operands]) h2;obtain⟨q,h4,hcq⟩:=zCq hstep1.rel (hI.seen hO hoj hpj) (x:=xj) (by simp[looks,hopj,Op.operands]) h3;split at h4<;>first|(cases h4;done)|skip
   rename_i b ob c oc;obtain⟨h5,h6⟩:=zB h4;obtain⟨y,hy,h7⟩:=T.getK_ok (h6:m1.t.getK b _=.ok);obtain⟨z,hz,h8⟩:=T.getK_ok (h7:m1.t.getK c _=.ok);split at h8<;>first|(cases h8;done)|skip
   rename_i cb eb gb zb cc ec gc zc;obtain⟨h9,h10⟩:=zB h8;obtain⟨pb,hpb,Cb,eb',fb,Lb,hwb,_⟩:=hstep1.rel.blk b _ hy;obtain⟨pc,hpc,Cc,ec',fc,Lc,hwc,_⟩:=hstep1.rel.blk c _ hz;obtain⟨pb',hpb',hab⟩:=yK hcp;obtain⟨pc',hpc',hac⟩:=yK hcq;rw[hpb] at hpb';injection hpb' with hpb';subst hpb'
   rw[hpc] at hpc';injection hpc' with hpc';subst hpc'
   have hbc:b≠c:=fun e=>by rw[e] at h5;simp at h5
   have hz1:zc<=1:=rH h9;have hblk:pc.blk≠pb.blk:=fun e=>hbc (hstep1.rel.apart c b _ _ pc pb hz hy hpc hpb e (by
    have:zc=0∨zc=1:=by omega
    rcases this with rfl|rfl<;>rfl)).symm
   have hr1:=Inv.runEff (F:=F) (n:=n) (Q:=fun _ _ _=>False) (f:=f) hO hg hflat hc hF (s:=.two i j ins chk) (i:=i) (ins:=ins) (chk:=chk) rfl rfl (fun x hx=>(hins2 x hx).1) (fun pre' hpre' x hx=>((hO.two pre' i j ins chk _ hpre').2.1 x hx).1) hI
    (by rw[hins,hoi];exact h10) hpi
   obtain⟨w1,hrun1,ι1,fr1,m2,ps2,hI1,hd1⟩:=zCi hoi hopi hgi hdi hr1;have hr2:=Inv.runEff (F:=F) (n:=n) (Q:=fun _ _ _=>False) (f:=f) hO hg hflat hc hF (s:=.eff j [] chk2) (i:=j) (ins:=[]) (chk:=chk2) rfl rfl (fun x hx=>by cases hx) (fun pre' hpre' x hx=>hO.anew pre' j [] chk2 _ hpre' x hx) hI1 hd1
    (fun o ho e he hb=>(zY hiD).2 (.inr (hpj' o ho e he hb)))
   obtain⟨w2,hrun2,ι2,fr2,m3,ps3,hI2,hd2⟩:=zCi hoj hopj hgj hdj hr2;rw[hab] at hrun1;rw[hac] at hrun2 hst;obtain⟨Cb2,hw1,gen1⟩:=zAL hwb hrun1;have hwc1:w1.heap[pc.blk]? =some (.cells Cc ec' fc):=by rw[hw1,World.putObj_heap_other hblk];exact hwc
   obtain⟨Cc2,hw2,gen2⟩:=zAL hwc1 hrun2;rw[gen2 w hwc] at hst;injection hst with _ hst
   subst hst;have hww:(w.putObj pc.blk (.cells Cc2 ec' fc)).putObj pb.blk (.cells Cb2 eb' fb)=w2:=by rw[hw2,hw1,World.putObj_comm _ _ _ hblk]
   refine zJK hoi hopi hgi hdi hF (w':=w2) (by rw[hab,<-hww];exact gen1 _ (by rw[World.putObj_heap_other (Ne.symm hblk)];exact hwb)) ?_;rw[Array.setIfInBounds_comm _ _ (Ne.symm hij)];rw[Array.setIfInBounds_comm _ _ (Ne.symm hij)] at hcx;exact ih k (rL _) (by omega) hI2 hd2
  rcases rK.1 hs with e|hs
  ·subst e
   exact absurd ((zY hjD).2 (.inl hse.symm)) hnx
  ·exfalso
   subst hse;have:=zGh (D:=Dn (D.setIfInBounds j true)) hO.back hclosed _ ho hpo (hpost s hs);rcases(zY hjD).1 this with e|hh
   ·exact hij e
   ·exact hnDi hh
theorem zKH (hO:zBS ops S0) (hg:GOk P g) (hflat:∀t,g.isFlat t=true->Flat P t) (hc:xY P call) (hF:Wide F) {i j:Nat} {ins chk:List Nat} {oj:Oper} {tj:TypeId} {xj yj:Operand} (hoj:ops[j]? =some oj) (hopj:oj.op=.store tj xj yj) (hgj:oj.guard=none) (hdj:oj.dst=none):
  ∀(k:Nat) {D:Array Bool} {rest:List DStep} {ι:Inj} {fr:Fr} {m:Mem} {nm:Nat} {ps:List Pend} {a:Act} {w:World},D.toList.count false<=k->Inv P g call ops S0 mask ι0 m0 w0 top D (.two i j ins chk::rest) ι fr m nm ps a w->pQ g call ops top (.two i j ins chk::rest) fr m nm ps f=.ok->
  (∀e∈oj.after,Region.binds .any e=true->Dn D e.on)->∃w',(Instr.storeAt tj (a.eval xj) (a.eval yj)).run P w=.ok () w':=by
 intro k;induction k with
 |zero=>
  intro D rest ι fr m nm ps a w hcnt hI h hpj;exfalso;have:=zIu (D:=D) (x:=j) (by rw[hI.dsize];exact z8 hoj) fun hh=>by
   obtain⟨pre,hpre⟩:=hI.split;obtain⟨⟨chk2,post,hrest,_⟩,_⟩:=hO.two pre i j ins chk rest hpre;subst hrest;exact hI.inB _ hh (by simp[zC])
  omega
 |succ k ihk=>
  intro D rest ι fr m nm ps a w hcnt hI h hpj;obtain⟨pre,hpre⟩:=hI.split;obtain⟨⟨chk2,post,hrest,hpost⟩,hpure,halloc,hins2,hsi,hsj,hpred⟩:=hO.two pre i j ins chk rest hpre;subst hrest;obtain⟨oi,ti,xi,yi,hoi,hopi,hgi,hdi⟩:=zBV hsi;have hnd:=hO.nodup;rw[hpre,List.map_append] at hnd;obtain⟨_,hnd2,hdisj⟩:=List.nodup_append.1 hnd;have hpj':∀o,ops[j]? =some o->∀e∈o.after,Region.binds .any e=true->Dn D e.on:=fun o ho=>by
   rw[hoj] at ho;injection ho with ho;subst ho;exact hpj
  have hnotin:∀p∈pre,zC p∉(DStep.two i j ins chk::.eff j [] chk2::post).map zC:=fun p hp' hx=>hdisj _ (List.mem_map.2 ⟨p,hp',rfl⟩) _ hx rfl
  have hnDj:¬Dn D j:=fun hh=>hI.inB _ hh (by simp[zC])
  have hiD:i<D.size:=by rw[hI.dsize];exact z8 hoi
  have hpreD:∀p∈pre,Dn D (zC p)∨∃x,p=.pure x/\zM9 ops x=true/\∀o,ops[x]? =some o->∀e∈o.after,Region.binds .any e=true->e.on∈pre.map zC:=fun p hp'=>by
   cases p with
   |pure x=>
    rcases(hpure x hp').2 with h1|h1
    ·exact .inl (hI.ancD hO hoj hpj h1)
    ·exact .inr ⟨x,rfl,h1⟩
   |alloc x=>exact .inl (hI.ancD hO hoj hpj (halloc x hp').2)
   |eff x u v=>exact .inl (hI.effs _ (by rw[hpre];exact rE _ hp') rfl (hnotin _ hp'))
   |two x u v z=>exact .inl (hI.effs _ (by rw[hpre];exact rE _ hp') rfl (hnotin _ hp'))
  by_cases hall:∀p∈pre,Dn D (zC p)
  ·have hpi:∀o,ops[i]? =some o->∀e∈o.after,Region.binds .any e=true->Dn D e.on:=fun o' ho' e he hb=>by
    obtain⟨p,h1,h2⟩:=List.mem_map.1 (hpred o' ho' e he hb);rw[<-h2];exact hall p h1
   obtain⟨ps1,m1,hins⟩:=zAs (ins:=ins) ps m;have h0:zA4 ins ps m (fun ps m=>zP 0 ops[i]? fun o=>zP 0 ops[j]? fun oj=>zCP o oj fr m (qI g call ops o fr m fun v m=>pZ fr o.dst v fun fr=>zBN g call ops chk fr m (pQ g call ops top (.eff j [] chk2::post) fr m nm ps f)))=.ok:=h;rw[hins] at h0;obtain⟨o',e1,h1⟩:=zF h0;rw[hoi] at e1;injection e1 with e1;subst e1
   obtain⟨o',e1,h2⟩:=zF h1;rw[hoj] at e1;injection e1 with e1;subst e1
   have hinsD:∀p∈ps,zA9 p.i ins=true->Dn D p.i:=fun p _ hm=>hI.ancD hO hoj hpj (hins2 p.i (zDf.1 hm)).2
   have hstep1:Step P ι0 m0 w0 ι m1 w:=by
    classical
    have hk:zA4 ins ps m (fun _ m=>if m=m1 then R.ok else .bad 0)=.ok:=by rw[hins,if_pos rfl]
    obtain⟨m2,k1,_,k2,_⟩:=zCs hk hI.step (fun p hp' hm=>(hI.pend p hp').2.2.2 (hinsD p hp' hm)) (fun p hp1 q hq1 hne hm=>(hI.dist p hp1 q hq1 hne).2 (hinsD p hp1 hm)) hI.once;split at k1
    ·rename_i e;rw[<-e];exact k2
    ·cases k1
   have hap:=h2;unfold zCP at h2;rw[hopi,hopj] at h2;obtain⟨p,h3,hcp⟩:=zCq hstep1.rel (hI.seen hO hoi (hpi oi hoi)) (x:=xi) (by simp[looks,hopi,Op.operands]) h2;obtain⟨q,h4,hcq⟩:=zCq hstep1.rel (hI.seen hO hoj hpj) (x:=xj) (by simp[looks,hopj,Op.operands]) h3;split at h4<;>first|(cases h4;done)|skip
   rename_i b ob c oc;obtain⟨h5,h6⟩:=zB h4;obtain⟨y,hy,h7⟩:=T.getK_ok (h6:m1.t.getK b _=.ok);obtain⟨z,hz,h8⟩:=T.getK_ok (h7:m1.t.getK c _=.ok);split at h8<;>first|(cases h8;done)|skip
   rename_i cb eb gb zb cc ec gc zc;obtain⟨h9,h10⟩:=zB h8;obtain⟨pb,hpb,Cb,eb',fb,Lb,hwb,_⟩:=hstep1.rel.blk b _ hy;obtain⟨pc,hpc,Cc,ec',fc,Lc,hwc,_⟩:=hstep1.rel.blk c _ hz;obtain⟨pb',hpb',hab⟩:=yK hcp;obtain⟨pc',hpc',hac⟩:=yK hcq;rw[hpb] at hpb';injection hpb' with hpb';subst hpb'
   rw[hpc] at hpc';injection hpc' with hpc';subst hpc'
   have hbc:b≠c:=fun e=>by rw[e] at h5;simp at h5
   have hz1:zc<=1:=rH h9;have hblk:pc.blk≠pb.blk:=fun e=>hbc (hstep1.rel.apart c b _ _ pc pb hz hy hpc hpb e (by
    have:zc=0∨zc=1:=by omega
    rcases this with rfl|rfl<;>rfl)).symm
   have hr1:=Inv.runEff (F:=F) (n:=0) (Q:=fun _ _ _=>False) (f:=f) hO hg hflat hc hF (s:=.two i j ins chk) (i:=i) (ins:=ins) (chk:=chk) rfl rfl (fun x hx=>(hins2 x hx).1) (fun pre' hpre' x hx=>((hO.two pre' i j ins chk _ hpre').2.1 x hx).1) hI
    (by rw[hins,hoi];exact h10) hpi
   obtain⟨w1,hrun1,ι1,fr1,m2,ps2,hI1,hd1⟩:=zCi hoi hopi hgi hdi hr1;have hr2:=Inv.runEff (F:=F) (n:=0) (Q:=fun _ _ _=>False) (f:=f) hO hg hflat hc hF (s:=.eff j [] chk2) (i:=j) (ins:=[]) (chk:=chk2) rfl rfl (fun x hx=>by cases hx) (fun pre' hpre' x hx=>hO.anew pre' j [] chk2 _ hpre' x hx) hI1 hd1
    (fun o ho e he hb=>(zY hiD).2 (.inr (hpj' o ho e he hb)))
   obtain⟨w2,hrun2,ι2,fr2,m3,ps3,hI2,hd2⟩:=zCi hoj hopj hgj hdj hr2;rw[hab] at hrun1;rw[hac] at hrun2;obtain⟨Cb2,hw1,gen1⟩:=zAL hwb hrun1;have hwc1:w1.heap[pc.blk]? =some (.cells Cc ec' fc):=by rw[hw1,World.putObj_heap_other hblk];exact hwc
   obtain⟨Cc2,hw2,gen2⟩:=zAL hwc1 hrun2;exact⟨_,by rw[hac];exact gen2 w hwc⟩
  ·
   have least:∀x,x∈pre.map zC->¬Dn D x->∃y,y∈pre.map zC/\¬Dn D y/\∀o,ops[y]? =some o->∀e∈o.after,Region.binds .any e=true->Dn D e.on:=by
    intro x;induction x using Nat.strongRecOn with
    |_ x ihx=>
     intro hx hnx;by_cases hpx:∀o,ops[x]? =some o->∀e∈o.after,Region.binds .any e=true->Dn D e.on
     ·exact⟨x,hx,hnx,hpx⟩
     ·simp only[Classical.not_forall] at hpx
      obtain⟨o,ho,e,he,hb,hne⟩:=hpx;obtain⟨p,hp1,hp2⟩:=List.mem_map.1 hx;rcases hpreD p hp1 with hd|⟨x',e1,_,hpp⟩
      ·rw[hp2] at hd;exact absurd hd hnx
      ·subst e1
       have hp2:x'=x:=hp2;subst hp2;exact ihx e.on (hO.back x' o ho e he hb) (hpp o ho e he hb) hne
   simp only[Classical.not_forall] at hall;obtain⟨p,hp1,hp2⟩:=hall;obtain⟨x,hx,hnx,hpx⟩:=least _ (List.mem_map.2 ⟨p,hp1,rfl⟩) hp2;obtain⟨s,hs,hse⟩:=List.mem_map.1 hx;rcases hpreD s hs with hd|⟨x',e,hidx,_⟩
   ·rw[hse] at hd;exact absurd hd hnx
   subst e;have hse:x'=x:=hse;subst hse;have hsS:DStep.pure x'∈S0:=by rw[hpre];exact rE _ hs
   have hW:Waits S0 D (.two i j ins chk::.eff j [] chk2::post) (.pure x'):=⟨hsS,rfl,hnotin _ hs,hnx⟩;obtain⟨o',t,y,z,V,ho',hop,hgd,hV⟩:=hI.idx hO hg hW hidx hpx;obtain⟨ι',hI2⟩:=zMD ho' hop hgd (hV w) (hI.runPure (F:=F) (n:=0) (Q:=fun _ _ _=>False) hO hg hflat hc hF hW hpx);have hx'D:x'<D.size:=by rw[hI.dsize];exact z8 ho'
   have hcx:=zMH hx'D hnx;have hev:∀u,Operand.tmp u∈looks ops oj->o'.dst≠some u:=fun u hu hd=>hnx (hI.ancD hO hoj hpj (hO.seen _ hsS rfl j oj o' u hoj ho' hd hu))
   have:=ihk (by omega) hI2 h (fun e he hb=>(zY hx'D).2 (.inr (hpj e he hb)));rw[zDm fun d hd e=>hev d (by rw[<-e];simp[looks,hopj,Op.operands]) hd,zDm fun d hd e=>hev d (by rw[<-e];simp[looks,hopj,Op.operands]) hd] at this;exact this
theorem zN8 (hO:zBS ops S0) (hlow:∀s∈S0,zC s<ops.size) (hg:GOk P g) (hflat:∀t,g.isFlat t=true->Flat P t) (hc:xY P call) (hF:Wide F) (hK:∀a w ι fr m,f fr m=.ok->St P mask ι0 m0 w0 ι fr m a w->Q .normal a w):
  ∀(fuel:Nat) {D:Array Bool} {rest:List DStep} {ι:Inj} {fr:Fr} {m:Mem} {nm:Nat} {ps:List Pend} {a:Act} {w:World},D.toList.count false<=fuel->Inv P g call ops S0 mask ι0 m0 w0 top D rest ι fr m nm ps a w->pQ g call ops top rest fr m nm ps f=.ok->
   wpAnyIn F n P .any ops Q fuel D a w:=by
 intro fuel;induction fuel using Nat.strongRecOn with
 |_ fuel ihs=>
 cases fuel with
 |zero=>
  intro D rest ι fr m nm ps a w hcnt hI h;have hall:∀i,i<ops.size->Dn D i:=fun i hi=>by
   have hi':i<D.toList.length:=by rw[Array.length_toList,hI.dsize];exact hi
   have h0:D.toList.count false=0:=by omega
   have:=List.count_eq_zero.1 h0;unfold Dn;rw[rB,rA (by simpa using hi')];simp only[Option.getD_some];cases hb:D[i]'(by simpa using hi') with
   |true=>rfl
   |false=>exact absurd (by rw[<-hb];simp) this
  refine⟨?_,hI.done hO h hall hK hlow⟩;apply List.eq_nil_iff_forall_not_mem.2;intro i hi;obtain⟨h1,o,h2,_⟩:=mem_ready.1 hi;have:=hall i (z8 h2);unfold Dn at this;have hlt:i<D.size:=by rw[hI.dsize];exact z8 h2
  rw[rB,rA hlt] at this h1;simp at this h1;rw[this] at h1;cases h1
 |succ fuel=>
  have ih:∀ {D:Array Bool} {rest:List DStep} {ι:Inj} {fr:Fr} {m:Mem} {nm:Nat} {ps:List Pend} {a:Act} {w:World},D.toList.count false<=fuel->Inv P g call ops S0 mask ι0 m0 w0 top D rest ι fr m nm ps a w->pQ g call ops top rest fr m nm ps f=.ok->
   wpAnyIn F n P .any ops Q fuel D a w:=fun h1 h2 h3=>ihs fuel (rL _) h1 h2 h3
  intro D rest ι fr m nm ps a w hcnt hI h;refine⟨fun hr=>hI.done hO h (zOC hO hI hr) hK hlow,fun i hi=>?_⟩;obtain⟨hun,o,ho,hpo⟩:=mem_ready.1 hi;have hlt:i<D.size:=by rw[hI.dsize];exact z8 ho
  have hDi:D[i]=false:=by
   rw[rB,rA hlt] at hun
   simpa using hun
  have hnD:¬Dn D i:=by
   unfold Dn;rw[rB,rA hlt];simp[hDi]
  have hcnt':(D.setIfInBounds i true).toList.count false<=fuel:=by
   have e:(D.setIfInBounds i true).toList=D.toList.set i true:=by simp
   rw[e,List.count_set (by simpa using hlt)];have hpos:0<D.toList.count false:=List.count_pos_iff.2 (by rw[<-hDi];simp);have:D.toList[i]'(by simpa using hlt)=false:=by simpa using hDi
   rw[this];have e2:((if(false==false)=true then 1 else 0):Nat)=1:=rfl;have e3:((if(true==false)=true then 1 else 0):Nat)=0:=rfl;rw[e2,e3];omega
  have hp:∀o,ops[i]? =some o->∀e∈o.after,Region.binds .any e=true->Dn D e.on:=fun o' ho' e he hb=>by
   rw[ho] at ho';injection ho' with ho';subst ho'
   exact hpo e he hb
  obtain⟨rest',fr',nm',ps',hI',h',hhead⟩:=hI.norm hO h;obtain⟨s,hs,hse⟩:=List.mem_map.1 (hO.cover i (z8 ho));subst hse;by_cases hin:zC s∈rest'.map zC
  ·
   cases rest' with
   |nil=>cases hin
   |cons s' rest'=>
    have hs':=hhead s' rest' rfl;cases s' with
    |pure j=>cases hs'
    |alloc j=>cases hs'
    |two j jj ins chk=>
     obtain⟨pre,hpre⟩:=hI'.split;obtain⟨⟨chk2,post,hrest,hpost⟩,_,_,hins2,hsi,hsj,hpred⟩:=hO.two pre j jj ins chk rest' hpre;obtain⟨oi,_,_,_,hoi,_⟩:=zBV hsi;obtain⟨oj,tj,xj,yj,hoj,hopj,hgj,hdj⟩:=zBV hsj;have hcase:zC s=j∨zC s=jj:=by
      simp only[List.map_cons,rK] at hin;rcases hin with h|h
      ·exact .inl h
      ·obtain⟨s2,h2,h3⟩:=List.mem_map.1 h
       rw[hrest] at h2;rcases rK.1 h2 with rfl|h2
       ·exact .inr h3.symm
       ·exfalso
        have:=hpost s2 h2;rw[h3] at this;exact hI'.inB j (hI'.ancD hO ho (hp o ho) this) (by simp[zC])
     rcases hcase with hsj'|hsj'
     ·rw[hsj'] at hp hcnt' ⊢
      obtain⟨ps1,m1,hins⟩:=zAs (ins:=ins) ps' m;have h0:zA4 ins ps' m (fun ps m=>zP 0 ops[j]? fun o=>zP 0 ops[jj]? fun oj=>zCP o oj fr' m (qI g call ops o fr' m fun v m=>pZ fr' o.dst v fun fr=>zBN g call ops chk fr m (pQ g call ops top rest' fr m nm' ps f)))=.ok:=h';have h1:zA4 ins ps' m (fun ps m=>zP 0 ops[j]? fun o=>qI g call ops o fr' m fun v m=>pZ fr' o.dst v fun fr=>zBN g call ops chk fr m (pQ g call ops top rest' fr m nm' ps f))=.ok:=by
       rw[hins] at h0 ⊢;obtain⟨o1,e1,h2⟩:=zF h0;rw[e1];obtain⟨o2,e2,h3⟩:=zF h2;exact zMz h3
      exact wpOpIn_mono (fun a' w' ⟨ι',fr2,m2,ps2,hI2,h2⟩=>ih hcnt' hI2 h2) (Inv.runEff hO hg hflat hc hF (s:=.two j jj ins chk) rfl rfl (fun x hx=>(hins2 x hx).1) (fun pre' hpre' x hx=>((hO.two pre' j jj ins chk _ hpre').2.1 x hx).1) hI' h1 hp)
     ·rw[hsj'] at hp hcnt' hnD hlt ⊢
      subst hrest;obtain⟨w',hw'⟩:=zKH (F:=F) hO hg hflat hc hF hoj hopj hgj hdj (D.toList.count false) (rM _) hI' h' (hp oj hoj);exact zJK hoj hopj hgj hdj hF hw' (zMd hO hg hflat hc hF hoj hopj hgj hdj fuel (fun k' hk'=>fun h1 h2 h3=>ihs k' (by omega) h1 h2 h3) hcnt' hI' h' (hp oj hoj) hw')
    |eff j ins chk=>
     obtain⟨pre,hpre⟩:=hI'.split;have hsj:zC s=j:=by
      simp only[List.map_cons,rK] at hin;rcases hin with h|h
      ·exact h
      ·exfalso
       obtain⟨s2,h2,h3⟩:=List.mem_map.1 h;have:=hO.after pre j ins chk rest' hpre s2 h2;rw[h3] at this;have hDj:=hI'.ancD hO ho (hp o ho) this;exact hI'.inB j hDj (by simp[zC])
     rw[hsj] at hp hcnt' ⊢;exact wpOpIn_mono (fun a' w' ⟨ι',fr2,m2,ps2,hI2,h2⟩=>ih (by simpa[hsj] using hcnt') hI2 h2) (Inv.runEff hO hg hflat hc hF (s:=.eff j ins chk) rfl rfl (fun x hx=>by obtain⟨pre,hpre⟩:=hI'.split;exact hO.ins pre j ins chk rest' hpre x hx) (fun pre hpre=>hO.anew pre j ins chk rest' hpre) hI' h' hp)
  ·have hW:∀hh:xC s=true,Waits S0 D rest' s:=fun hh=>⟨hs,hh,hin,hnD⟩
   cases s with
   |pure j=>exact wpOpIn_mono (fun a' w' ⟨ι',hI2⟩=>ih hcnt' hI2 h') (hI'.runPure hO hg hflat hc hF (hW rfl) hp)
   |alloc j=>exact wpOpIn_mono (fun a' w' ⟨ι',hI2⟩=>ih hcnt' hI2 h') (hI'.runAlloc hO hg hF (hW rfl) hp)
   |eff j ins chk=>exact absurd (hI'.effs _ hs rfl hin) hnD
   |two j jj ins chk=>exact absurd (hI'.effs _ hs rfl hin) hnD
end
abbrev Tbl:=T (List (Nat×(Nat×List DStep)))
noncomputable def zIq {α:Type} (l:List (Nat×α)) (id:Nat) (f:α->R):R:=List.rec (motive:=fun _=>R) (R.bad 0) (fun x _ ih=>Bool.rec (motive:=fun _=>R) ih (f x.2) (Nat.beq x.1 id)) l
noncomputable def zDz (g:G) (tbl:Tbl) (call:yT) (f:FuncId):zDI:=fun id ops fr m k=>tbl.getK f fun l=>zIq l id fun e=>zQX g call e.1 e.2 ops fr m k
theorem zHn {α:Type} {id:Nat} {f:α->R}:∀ {l:List (Nat×α)},zIq l id f=.ok->∃x,(id,x)∈l/\f x=.ok
 |[],h=>by cases h
 |(j,x)::l,h=>by
  have h:(Bool.rec (motive:=fun _=>R) (zIq l id f) (f x) (Nat.beq j id):R)=.ok:=h;by_cases e:j=id
  ·subst e
   simp only[Nat.beq_refl] at h;exact⟨x,rG ..,h⟩
  ·have hb:Nat.beq j id=false:=by cases h':Nat.beq j id with|false=>rfl|true=>exact absurd (rF h') e
   rw[hb] at h;obtain⟨y,h1,h2⟩:=zHn h;exact⟨y,rC _ h1,h2⟩
def zNr (P:Program) (tbl:Tbl):Prop:=∀f l id e ops fn b,tbl.find f f=some l->(id,e)∈l->P.funcs[f]? =some fn->fn.body=some b->(id,ops)∈qE b->zGb ops e.2=true
theorem zGS {P:Program} {g:G} (hg:GOk P g) (hflat:∀t,g.isFlat t=true->Flat P t) {tbl:Tbl} (htbl:zNr P tbl) {call:yT} (hc:xY P call) (f:FuncId) (F:Fence) (mask:Nat) (hF:Wide F):zFn P F mask f (zDz g tbl call f):=by
 intro n Q ι0 m0 w0 id ops ι fr m a w k hs hD h hK;obtain⟨l,h1,h2⟩:=T.getK_ok (h:tbl.getK f (fun l=>zIq l id fun e=>zQX g call e.1 e.2 ops fr m k)=.ok);obtain⟨⟨kk,S⟩,h3,h4⟩:=zHn h2;obtain⟨fn,b,h5,h6,h7⟩:=hD (id,ops) (by simp[qE]);have hO:=zN6 (htbl f l id _ ops fn b h1 h3 h5 h6 h7);have h4:zS (Nat.add m.next kk) (fun top=>pQ g call ops top S fr ⟨top,m.t⟩ m.next [] k)=.ok:=h4;rw[zN] at h4;have hd:=Step.drew hs.step.rel (w.drawn+1);have h8:=hs.step.trans hd;refine wpIn_region_any hg.mixed ?_;refine zN8 (top:=Nat.add m.next kk) (f:=k) (mask:=mask) (ι0:=ι0) (m0:=m0) (w0:=w0) hO hO.low hg hflat hc hF hK ops.size (D:=Array.replicate ops.size false) (rest:=S) (ι:=ι) (fr:=fr) (m:=⟨Nat.add m.next kk,m.t⟩) (nm:=m.next) (ps:=[]) (by simp) ?_ h4;have hnone:∀x,¬Dn (Array.replicate ops.size false) x:=fun x h=>by
  unfold Dn at h;rw[rB] at h;by_cases hx:x<ops.size
  ·rw[rA (by simpa using hx)] at h;simp at h
  ·rw[Array.getElem?_eq_none (by simpa using hx)] at h;cases h
 refine⟨h8.bump (by simp),(zAQ.ext (m:=m) (m':=⟨Nat.add m.next kk,m.t⟩) (ι':=ι) (fun r o _ h=>⟨rfl,fun h'=>h h'⟩) (hs.defs.step hd)),hs.fr.size,hs.fr.ng,hs.fr.masked,fun t x hx=>?_,⟨[],rfl⟩,by simp,fun x o hx=>absurd hx (hnone x),fun x hx=>absurd hx (hnone x),fun s hs' _ h=>absurd (List.mem_map.2 ⟨s,hs',rfl⟩) h,fun t x hx=>.inr (hs.fr.val t x hx),
  fun j hj=>absurd (List.mem_map.2 ⟨_,hj.1,rfl⟩) hj.2.2.1,fun j hj=>absurd (List.mem_map.2 ⟨_,hj.1,rfl⟩) hj.2.2.1,fun p hp=>(by cases hp),fun p hp=>(by cases hp),by simp,⟨⟨hs.step.next,by simp,by simp⟩,fun c h1 _=>hs.step.rel.fresh c h1⟩⟩
 obtain⟨V,_,h9⟩:=hs.fr.val t x hx;rw[<-hs.fr.size];exact z8 h9
noncomputable section
def zEY {H:Type}:DataW H->List AV
 | .lit (.int k n)=>[.int k n]
 | .lit (.bool b)=>[.bool b]
 | .lit (.string l)=>[.str l]
 |_=>[]
def vO {H:Type} (n:Nat):DataW H->List AV:=Nat.rec (motive:=fun _=>DataW H->List AV) zEY (fun _ ih d=>match d with| .agg l=>l.flatMap ih|d=>zEY d) n
def zRC (l:List (Nat×List (Nat×(Nat×List DStep)))) (f:Tbl->R):R:=
 List.rec (motive:=fun _=>Tbl->(Tbl->R)->R) (fun t f=>f t) (fun x _ ih t f=>t.setK x.1 x.2 fun t=>ih t f) l (T.nil 11) f
def zOt (l:List (Nat×Blk)) (f:T Blk->R):R:=
 List.rec (motive:=fun _=>T Blk->(T Blk->R)->R) (fun t f=>f t) (fun x _ ih t f=>t.setK x.1 x.2 fun t=>ih t f) l (T.nil 16) f
def zIK (p:Program) (flat:List TypeId) (f:G->R):R:=
 zA6 p.funcs.toList 0 (.nil 11) fun ft=>zA6 p.types.toList 0 (.nil 11) fun tt=>f ⟨ft,tt,flat,p.globals.size⟩
def zBP (v:AV):R:=match v with| .bool true=>.ok|_=>.bad 0
end
noncomputable section
structure Snap where
 blks:List (Nat×Blk)
 next:Nat
 tmps:List (Nat×AV)
 n:Nat
 ng:Nat
def zFM:Nat->Code->Code
 |0,_=>.skip
 |n+1,c=>match c with
  | .seq a b=>.seq a (zFM n b)
  |c=>c
def qV:Nat->Code->Code
 |0,c=>c
 |n+1,c=>match c with
  | .seq _ b=>qV n b
  |_=>.skip
def zSt (l:List (Nat×AV)) (f:Log->R):R:=List.rec (motive:=fun _=>(Log->R)->R) (fun f=>f .nil) (fun x _ ih f=>ih fun l=>f (.cons x.1 x.2 l)) l f
def zOi (l:List (Nat×AV)) (fr:Fr) (r:R):R:=List.rec (motive:=fun _=>R) r (fun x _ ih=>fr.getK x.1 fun v=>ifB 0 (eqB 6 v x.2) ih) l
def zPA (l:List (Nat×Blk)) (m:Mem) (r:R):R:=List.rec (motive:=fun _=>R) r (fun x _ ih=>pJ m x.1 fun y=>ifB 0 (zG4 y x.2) ih) l
def zQg (s:Snap) (fr:Fr) (m:Mem):R:=ifB 0 (Nat.beq fr.n s.n) (ifB 0 (Nat.beq fr.ng s.ng) (ifB 0 (Nat.beq m.next s.next) (zOi s.tmps fr (zPA s.blks m .ok))))
def zMb (s:Snap) (_:G) (_:Func):KX:=fun e fr m=>X.rec (motive:=fun _=>R) (zQg s fr m) (fun _=>.bad 0) (.bad 0) e
def zQZ (g:G) (fn:Func):KX:=fun e fr m=>X.rec (motive:=fun _=>R) (zIy g fn.results.toList fr m zBP) (fun _=>.bad 0) (zIy g fn.results.toList fr m zBP) e
def zCL (p:Program) (flat:List TypeId) (orders:List (Nat×List (Nat×(Nat×List DStep)))) (fuel depth:Nat) (f:FuncId) (c:Code->Code) (s:Snap) (k:G->Func->KX):R:=
 zIK p flat fun g=>zRC orders fun tbl=>zOt s.blks fun t=>zSt s.tmps fun log=>g.ft.getK f fun fn=>zP 0 fn.body fun b=>zS (qJ fn) fun mask=>
  exK (c b) ⟨g,fuel,mask,zFC g fuel (zDz g tbl) depth,zAA g (zFC g fuel (zDz g tbl) depth) mask f,zDz g tbl (zFC g fuel (zDz g tbl) depth) f⟩ ⟨log,.nil 8,s.n,s.ng⟩ ⟨s.next,t⟩ (k g fn)
end
section
variable {P:Program} {ι ι0:Inj} {m m0:Mem} {w w0:World} {mask:Nat} {a:Act} {fr:Fr}
theorem zEP {α:Type} {d p k:Nat}:(T.nil d:T α).find p k=none:=rfl
theorem zD4 {α:Type}:∀ {l:List α} {n:Nat} {t:T α} {f:T α->R},zA6 l n t f=.ok->∃t',f t'=.ok/\∀k x,t'.find k k=some x->(n<=k/\l[k - n]? =some x)∨t.find k k=some x
 |[],n,t,f,h=>⟨t,h,fun _ _ h=>.inr h⟩
 |v::l,n,t,f,h=>by
  have h:t.setK n v (fun t=>zS (Nat.succ n) fun n=>zA6 l n t f)=.ok:=h;obtain⟨t1,h1,h2⟩:=T.setK_ok h;rw[zN] at h1;obtain⟨t2,h3,h4⟩:=zD4 h1;refine⟨t2,h3,fun k x hx=>?_⟩;rcases h4 k x hx with⟨h5,h6⟩|h5
  ·left
   have e:k - n=(k - (n+1))+1:=by omega
   exact⟨by omega,by rw[e];simpa using h6⟩
  ·rcases h2 k x h5 with⟨rfl,rfl⟩|⟨_,h6⟩
   ·left;simp
   ·exact .inr h6
theorem zEs {α:Type}:∀ {l:List (Nat×α)} {t:T α} {f:T α->R},List.rec (motive:=fun _=>T α->(T α->R)->R) (fun t f=>f t) (fun x _ ih t f=>t.setK x.1 x.2 fun t=>ih t f) l t f=.ok->
  ∃t',f t'=.ok/\∀k x,t'.find k k=some x->(k,x)∈l∨t.find k k=some x
 |[],t,f,h=>⟨t,h,fun _ _ h=>.inr h⟩
 |v::l,t,f,h=>by
  obtain⟨t1,h1,h2⟩:=T.setK_ok (t:=t) (k:=v.1) (a:=v.2) h;obtain⟨t2,h3,h4⟩:=zEs h1;refine⟨t2,h3,fun k x hx=>?_⟩;rcases h4 k x hx with h5|h5
  ·exact .inl (rC _ h5)
  ·rcases h2 k x h5 with⟨rfl,rfl⟩|⟨_,h6⟩
   ·exact .inl (rG ..)
   ·exact .inr h6
theorem zPV {l:List (Nat×Blk)} {f:T Blk->R} (h:zOt l f=.ok):∃t,f t=.ok/\∀b x,t.find b b=some x->(b,x)∈l:=by
 obtain⟨t,h1,h2⟩:=zEs (h:List.rec (motive:=fun _=>T Blk->(T Blk->R)->R) (fun t f=>f t) (fun x _ ih t f=>t.setK x.1 x.2 fun t=>ih t f) l (T.nil 16) f=.ok);exact⟨t,h1,fun b x hx=>(h2 b x hx).resolve_right fun h=>by rw[zEP] at h;cases h⟩
theorem zPq {l:List (Nat×List (Nat×(Nat×List DStep)))} {f:Tbl->R} (h:zRC l f=.ok):∃t:Tbl,f t=.ok/\∀b x,t.find b b=some x->(b,x)∈l:=by
 obtain⟨t,h1,h2⟩:=zEs (h:List.rec (motive:=fun _=>Tbl->(Tbl->R)->R) (fun t f=>f t) (fun x _ ih t f=>t.setK x.1 x.2 fun t=>ih t f) l (T.nil 11) f=.ok);exact⟨t,h1,fun b x hx=>(h2 b x hx).resolve_right fun h=>by rw[zEP] at h;cases h⟩
theorem zPZ {l:List (Nat×AV)}:∀ {f:Log->R},zSt l f=.ok->∃log,f log=.ok/\∀k x,log.find k=some x->(k,x)∈l:=by
 induction l with
 |nil=>intro f h;exact⟨.nil,h,fun k x hx=>by simp[Log.find] at hx⟩
 |cons v l ih=>
  intro f h;obtain⟨log,h1,h2⟩:=ih (f:=fun l=>f (.cons v.1 v.2 l)) h;refine⟨_,h1,fun k x hx=>?_⟩;simp only[Log.find] at hx;split at hx
  ·rename_i e
   injection hx with hx
   subst e hx;exact rG ..
  ·exact rC _ (h2 k x hx)
theorem zKn {flat:List TypeId} {f:G->R} (hnum:∀(f:FuncId) (fn:Func),P.funcs[f]? =some fn->fn.name≠ "runtime.NumGoroutine") (hmixed:P.follows .mixedOrders=true) (h:zIK P flat f=.ok):∃g,GOk P g/\g.flat=flat/\f g=.ok:=by
 obtain⟨ft,h1,h2⟩:=zD4 (h:zA6 P.funcs.toList 0 (.nil 11) (fun ft=>zA6 P.types.toList 0 (.nil 11) fun tt=>f ⟨ft,tt,flat,P.globals.size⟩)=.ok);obtain⟨tt,h3,h4⟩:=zD4 h1;refine⟨_,⟨fun k x hx=>?_,fun k x hx=>?_,rM _,hnum,hmixed⟩,rfl,h3⟩
 ·rcases h2 k x hx with⟨_,h5⟩|h5
  ·simpa using h5
  ·rw[zEP] at h5;cases h5
 ·rcases h4 k x hx with⟨_,h5⟩|h5
  ·have:P.types[k]? =some x:=by simpa using h5
   show(if k<P.types.size then P.types[k]? else _)=_;rw[if_pos (z8 this)];exact this
  ·rw[zEP] at h5;cases h5
theorem zLP {g:G} {t:TypeId} (h:g.isFlat t=true):t∈g.flat:=by
 unfold G.isFlat at h;generalize g.flat=l at h;induction l with
 |nil=>cases h
 |cons u l ih=>
  have h:iteB (Nat.beq t u) true (List.rec (motive:=fun _=>Bool) false (fun u _ ih=>iteB (Nat.beq t u) true ih) l)=true:=h;rw[zV] at h;split at h
  ·rename_i e;rw[rF e];exact rG ..
  ·exact rC _ (ih h)
def zEt (P:Program) (mask:Nat) (ι0:Inj) (m0:Mem) (w0:World) (s:Snap) (ι:Inj) (a:Act) (w:World):Prop:=
 ∀log t,(∀k x,Log.find log k=some x->(k,x)∈s.tmps)->(∀b x,T.find t b b=some x->(b,x)∈s.blks)->St P mask ι0 m0 w0 ι ⟨log,.nil 8,s.n,s.ng⟩ ⟨s.next,t⟩ a w
theorem zJ1 {r:R}:∀ {l:List (Nat×AV)},zOi l fr r=.ok->r=.ok/\∀k x,(k,x)∈l->fr.find k=some x
 |[],h=>⟨h,fun _ _ h=>by cases h⟩
 |v::l,h=>by
  obtain⟨y,h1,h2⟩:=Fr.getK_ok (h:fr.getK v.1 (fun u=>ifB 0 (eqB 6 u v.2) (zOi l fr r))=.ok);obtain⟨h3,h4⟩:=zB h2;obtain⟨h5,h6⟩:=zJ1 h4;refine⟨h5,fun k x hx=>?_⟩;rcases rK.1 hx with e|hx
  ·subst e;rw[h1,zDR 6 _ _ h3]
  ·exact h6 k x hx
theorem zKT {r:R}:∀ {l:List (Nat×Blk)},zPA l m r=.ok->r=.ok/\∀k x,(k,x)∈l->m.t.find k k=some x
 |[],h=>⟨h,fun _ _ h=>by cases h⟩
 |v::l,h=>by
  obtain⟨y,h1,h2⟩:=T.getK_ok (h:m.t.getK v.1 (fun u=>ifB 0 (zG4 u v.2) (zPA l m r))=.ok);obtain⟨h3,h4⟩:=zB h2;obtain⟨h5,h6⟩:=zKT h4;refine⟨h5,fun k x hx=>?_⟩;rcases rK.1 hx with e|hx
  ·subst e;rw[h1,zHT h3]
  ·exact h6 k x hx
theorem zPY {s:Snap} (hs:St P mask ι0 m0 w0 ι fr m a w) (h:zQg s fr m=.ok):zEt P mask ι0 m0 w0 s ι a w:=by
 obtain⟨h1,h2⟩:=zB h;obtain⟨h3,h4⟩:=zB h2;obtain⟨h5,h6⟩:=zB h4;obtain⟨h7,h8⟩:=zJ1 h6;obtain⟨_,h9⟩:=zKT h7;intro log t hl ht;have e1:=rF h1;have e2:=rF h3;have e3:=rF h5;have hf:=Step.forget hs.step.rel (t':=t) fun b x hx=>h9 b x (ht b x hx)
 rw[e3] at hf;refine⟨hs.step.trans hf,⟨by rw[hs.fr.size,e1],by rw[<-e2];exact hs.fr.ng,fun k x hx=>by simp[T.find] at hx,fun k x hx=>?_⟩,hs.defs.step hf⟩;simp only[Fr.find,T.find,Option.or_none] at hx;exact hs.fr.val k x (h8 k x (hl k x hx))
def zF0:Nat->Code->Bool
 |0,_=>true
 |n+1,c=>match c with
  | .seq _ b=>zF0 n b
  |_=>false
variable {F:Fence} {n':Nat} {Q:Exit->Act->World->Prop}
theorem zLg {me:FuncId} {ax:Ax} (hax:zON P F me ax) {k:KX} (hx:∀id fr m,k (.x id) fr m≠.ok) (hr:∀fr m,k .r fr m≠.ok):∀ {n:Nat} {c:Code},zF0 n c=true->yU P me c->∀ {ι:Inj} {fr:Fr} {m:Mem} {a:Act} {w:World},
  St P ax.mask ι0 m0 w0 ι fr m a w->exK (zFM n c) ax fr m k=.ok->(∀ι fr m a w,k .n fr m=.ok->St P ax.mask ι0 m0 w0 ι fr m a w->(qV n c).wpIn F n' P Q a w)->c.wpIn F n' P Q a w
 |0,c,_,_,ι,fr,m,a,w,hs,h,hQ=>hQ _ _ _ _ _ h hs
 |n+1,.seq x y,hrow,hD,ι,fr,m,a,w,hs,h,hQ=>by
  have h':exK x ax fr m (fun e fr m=>zQy e fr m (fun a fr m k=>exK (zFM n y) a fr m k) ax k)=.ok:=h;refine wpIn_seq (zAW x hax (yU.left hD rfl).1 hs h' fun e a w ⟨x',ι',fr',m',hxe,hk,hs'⟩=>?_);cases e<;>cases x'<;>simp only[zBJ] at hxe<;>try exact hxe.elim
  ·exact zLg hax hx hr (n:=n) hrow (yU.left hD rfl).2 hs' hk hQ
  ·exact absurd hk (hx _ _ _)
  ·exact absurd hk (hr _ _)
theorem zDQ {me:FuncId}:∀ {n:Nat} {c:Code},zF0 n c=true->yU P me c->yU P me (qV n c)
 |0,_,_,hD=>hD
 |n+1,.seq _ _,hrow,hD=>zDQ (n:=n) hrow (yU.left hD rfl).2
theorem zFl {flat:List TypeId} {orders:List (Nat×List (Nat×(Nat×List DStep)))} {fuel depth:Nat} {f:FuncId} {c:Code->Code} {s:Snap} {k:G->Func->KX} {fn:Func} {b:Code}
  (hnum:∀(f:FuncId) (fn:Func),P.funcs[f]? =some fn->fn.name≠ "runtime.NumGoroutine") (hmixed:P.follows .mixedOrders=true) (hflat:∀t∈flat,Flat P t)
  (hord:∀f l id e ops fn b,(f,l)∈orders->(id,e)∈l->P.funcs[f]? =some fn->fn.body=some b->(id,ops)∈qE b->zGb ops e.2=true)
  (hf:P.funcs[f]? =some fn) (hb:fn.body=some b) (hs:zEt P (qJ fn) ι0 m0 w0 s ι a w) (h:zCL P flat orders fuel depth f c s k=.ok):
  ∃ax fr m,GOk P ax.g/\ax.mask=qJ fn/\zON P Fence.wide f ax/\St P (qJ fn) ι0 m0 w0 ι fr m a w/\exK (c b) ax fr m (k ax.g fn)=.ok:=by
 obtain⟨g,hg,hfl,h1⟩:=zKn hnum hmixed h;obtain⟨tbl,h2,h3⟩:=zPq h1;obtain⟨t,h4,h5⟩:=zPV h2;obtain⟨log,h6,h7⟩:=zPZ h4;obtain⟨fn',h8,h9⟩:=T.getK_ok h6;have e:=hg.ft _ _ h8;rw[hf] at e;injection e with e;subst e
 obtain⟨b',e,h10⟩:=zF h9;rw[hb] at e;injection e with e;subst e
 rw[zN] at h10;have hflat':∀t,g.isFlat t=true->Flat P t:=fun t ht=>hflat t (by rw[<-hfl];exact zLP ht)
 have htbl:zNr P tbl:=fun f l id e ops fn b k1 k2 k3 k4 k5=>hord f l id e ops fn b (h3 f l k1) k2 k3 k4 k5
 have hcall:=zFq hg hflat' (fuel:=fuel) (draw:=zDz g tbl) (fun call hcall f F mask hF=>zGS hg hflat' htbl hcall f F mask hF) depth;exact⟨_,_,_,hg,rfl,⟨hg,hflat',hcall,.inl rfl,zDJ hg hcall f,zGS hg hflat' htbl hcall f _ _ (.inl rfl)⟩,hs log t h7 h5,h10⟩
end
theorem zMW:∀n,qV n .skip=.skip
 |0=>rfl
 |_+1=>rfl
theorem drop_drop:∀(m n:Nat) (c:Code),qV n (qV m c)=qV (m+n) c
 |0,n,c=>by rw[Nat.zero_add];rfl
 |m+1,n,c=>by
  rw[show m+1+n=(m+n)+1 by omega];cases c<;>first|exact drop_drop m n _|exact zMW n
section
variable {P:Program} {ι ι0:Inj} {m m0:Mem} {w w0:World} {a:Act}
variable {flat:List TypeId} {orders:List (Nat×List (Nat×(Nat×List DStep)))} {fuel depth:Nat} {f:FuncId} {fn:Func} {b:Code}
structure zMU (P:Program) (flat:List TypeId) (orders:List (Nat×List (Nat×(Nat×List DStep)))):Prop where
 num:∀(f:FuncId) (fn:Func),P.funcs[f]? =some fn->fn.name≠ "runtime.NumGoroutine"
 mixed:P.follows .mixedOrders=true
 flat:∀t∈flat,Flat P t
 ord:∀f l id e ops fn b,(f,l)∈orders->(id,e)∈l->P.funcs[f]? =some fn->fn.body=some b->(id,ops)∈qE b->zGb ops e.2=true
variable (hP:zMU P flat orders) (hf:P.funcs[f]? =some fn) (hb:fn.body=some b)
include hP hf hb
theorem zED {start len:Nat} {s s':Snap} {n:Nat} {Q:Exit->Act->World->Prop} (hrow:zF0 (start+len) b=true) (h:zCL P flat orders fuel depth f (fun b=>zFM len (qV start b)) s (zMb s')=.ok)
  (hs:zEt P (qJ fn) ι0 m0 w0 s ι a w) (next:∀ι a w,zEt P (qJ fn) ι0 m0 w0 s' ι a w->(qV (start+len) b).wpIn Fence.wide n P Q a w):(qV start b).wpIn Fence.wide n P Q a w:=by
 obtain⟨ax,fr,m,_,hm,hax,hst,h1⟩:=zFl hP.num hP.mixed hP.flat hP.ord hf hb hs h;have row1:∀(p q:Nat) (c:Code),zF0 (p+q) c=true->zF0 p c=true/\zF0 q (qV p c)=true:=by
  intro p;induction p with
  |zero=>intro q c h;exact⟨rfl,by simpa[qV] using h⟩
  |succ p ih=>
   intro q c h;rw[show p+1+q=(p+q)+1 by omega] at h;cases c<;>first|(cases h;done)|exact ih q _ h
 obtain⟨r1,r2⟩:=row1 _ _ _ hrow;have hD:yU P f (qV start b):=zDQ r1 fun r hr=>⟨fn,b,hf,hb,hr⟩
 rw[<-hm] at hst;refine zLg hax (k:=zMb s' ax.g fn) (fun id fr m h=>by cases h) (fun fr m h=>by cases h) r2 hD hst h1 fun ι fr m a w hk hst'=>?_
 rw[drop_drop];rw[hm] at hst';exact next ι a w (zPY hst' hk)
theorem zMg {start:Nat} {s:Snap} {n:Nat} (hrow:zF0 start b=true) (h:zCL P flat orders fuel depth f (fun b=>qV start b) s zQZ=.ok) (hs:zEt P (qJ fn) ι0 m0 w0 s ι a w):
  (qV start b).wpIn Fence.wide n P (bodyPostM Fence.wide n P fn (Ret P ι0 m0 w0 (fun v _=>zBP v))) a w:=by
 obtain⟨ax,fr,m,hg,hm,hax,hst,h1⟩:=zFl hP.num hP.mixed hP.flat hP.ord hf hb hs h;have hD:yU P f (qV start b):=zDQ hrow fun r hr=>⟨fn,b,hf,hb,hr⟩
 rw[<-hm] at hst;refine zAW _ hax hD hst h1 fun e a w' ⟨x,ι',fr,m',hx,hk,hs⟩=>?_
 have fin:zIy ax.g fn.results.toList fr m' zBP=.ok->LeavesInM Fence.wide n P fn a.tmps (Ret P ι0 m0 w0 (fun v _=>zBP v)) a.defers .returning w':=fun h0=>by
  refine zEp (ι0:=ι0) (m0:=m0) (w0:=w0) (ι:=ι') (m:=m') (fun w2 hs2=>?_) hs.step hs.defs;obtain⟨v,V,r1,r2,r3⟩:=zMG (w:=w2) hg hs2.rel hs.fr h0;exact⟨V,r3,V,rfl,v,ι',m',r1,hs2,r2⟩
 cases e<;>cases x<;>simp only[zBJ] at hx<;>first|exact hx.elim|skip
 ·exact fin hk
 ·cases hk
 ·exact fin hk
end
end Go.AM
namespace Go.AM
def qW (P:Program) (l:List (Nat×List (Nat×(Nat×List DStep)))):Bool:=l.all fun x=>match P.funcs[x.1]? with
 |some fn=>(match fn.body with
  |some b=>(qE b).all fun d=>x.2.all fun e=>!(Nat.beq e.1 d.1)||zGb d.2 e.2.2
  |none=>true)
 |none=>true
theorem zOh {P:Program} {l:List (Nat×List (Nat×(Nat×List DStep)))} (h:qW P l=true):∀f r id e ops fn b,(f,r)∈l->(id,e)∈r->P.funcs[f]? =some fn->fn.body=some b->(id,ops)∈qE b->zGb ops e.2=true:=fun f r id e ops fn b h1 h2 h3 h4 h5=>by
 have k1:=List.all_eq_true.1 h _ h1;simp only[h3,h4] at k1;have k2:=List.all_eq_true.1 (List.all_eq_true.1 k1 _ h5) _ h2
 simpa using k2
