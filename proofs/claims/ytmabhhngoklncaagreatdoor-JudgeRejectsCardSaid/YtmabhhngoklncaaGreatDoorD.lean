/- Each operation of the evaluator is the model's, third part: memory. -/
import Derived.Test.YtmabhhngoklncaaGreatDoorB
import Derived.Laws.Slices
import Derived.Laws.IdiomStrings
import Derived.Laws.BytesArg
import Derived.Lib.Builder
set_option maxRecDepth 100000
set_option maxHeartbeats 40000000
set_option linter.all false
open Nat renaming le_of_ble_eq_true->rA,eq_of_beq_eq_true->rB,lt_or_ge->rL,add_assoc->rM,le_refl->rO,mul_le_mul_right->rS,add_mul->r4,zero_mul->r8,mul_comm->r9,le_trans->rAa
open Go.Builtin renaming firstCells->rC,lenOf->rE,append_->rG,zeroCells->rN
open List renaming getElem?_eq_none->rD,getElem?_eq_getElem->rH,replicate->rJ,getElem?_take->rU,getElem?_drop->rV,getElem?_append_right->rY,getElem?_append_left->rZ,length_append->r5,size_toArray->r6
open Go.Result renaming andThen_ok->rF
open Go.Sem renaming run_bind->rI,run_pure->rP
open Go.Instr renaming typeAssert->rK,sureAddr->rW,storeAt->r0,makeSlice->r7,index->rAb
open Option renaming map_eq_some_iff->rQ,bind_eq_some_iff->r1
open Go renaming run_underlying->rR
open Array renaming length_toList->rT,getD_eq_getD_getElem?->rX,getElem?_eq_none->r2,getElem?_modify->r3
open Go
namespace Go.AM
def Out (P:Program) (ι:Inj) (m:Mem) (w:World) (f:AV->Mem->R) (r:Result Value):Prop:=
 ∃V w' ι' v m',r=.ok V w'/\f v m'=.ok/\Step P ι m w ι' m' w'/\conc ι' v=some V
section
variable {P:Program} {ι:Inj} {m:Mem} {w:World} {A B:Value} {a b:AV} {t:TypeId}
theorem yD.out {f:AV->Mem->R} {r:Result Value} (hr:Rel P ι m w) (h:yD P ι w (fun v=>f v m) r):Out P ι m w f r:=by
 obtain⟨v,V,h1,h2,h3⟩:=h;exact⟨V,w,ι,v,m,h3,h1,.refl hr,h2⟩
theorem yO (b o n:Nat):(⟨b,o,none⟩:Addr).add n=⟨b,o+n,none⟩:=by
 unfold Addr.add;split
 ·rename_i h;subst h;rfl
 ·rfl
theorem zCB {C:Array Value} {e:TypeId} {fz:Nat×Nat} {b:Nat} (h:w.heap[b]? =some (.cells C e fz)) (o:Nat):w.cell? ⟨b,o,none⟩=C[o]? :=by
 simp[World.cell?,h]
theorem zHc {p:Pl} {c:List AV} {e:TypeId} {g:Bool} {z:Nat} (h:xX P ι p (.cells c e g z) w):∃L,concL ι c=some L/\∀i,i<L.length->w.cell? ⟨p.blk,p.delta+i,none⟩=L[i]? :=by
 obtain⟨C,e',fz,L,h1,h2,h3,_⟩:=h;exact⟨L,h2,fun i hi=>by rw[zCB h1];exact h3 i hi⟩
theorem zIA {g:G} (hg:GOk P g) {p:Pl} {c:List AV} {L:List Value} {o s:Nat} {f:AV->R} (hs:g.size t=some s) (hL:concL ι c=some L)
  (hc:∀i,i<L.length->w.cell? ⟨p.blk,p.delta+i,none⟩=L[i]?) (h:loadCells (g.agg t) s c o f=.ok):yD P ι w f ((loadVar t ⟨p.blk,p.delta+o,none⟩).run P w):=by
 have hagg:=hg.run_agg (t:=t) (G.size_desc hs) w;have hsz:=hg.run_size hs w;unfold loadCells at h;rw[zV] at h;split at h<;>rename_i ha
 ·obtain⟨h1,h2⟩:=zAi h
  obtain⟨h3,h4⟩:=zAT h2;have hl:=pC (q8 hL o) s;have hlen:((L.drop o).take s).length=s:=by
   have:=zG hL;simp at h3;simp;omega
  have hload:(Go.loadCells ⟨p.blk,p.delta+o,none⟩ s).run P w=.ok ((L.drop o).take s).toArray w:=by
   have:=run_loadCells_list (P:=P) w ⟨p.blk,p.delta+o,none⟩ ((L.drop o).take s) (fun j v hv=>by
    rw[yO];have hj:j<s:=by
     rcases rL j s with h|h
     ·exact h
     ·rw[rD (by omega)] at hv;cases hv
    rw[rU,if_pos hj,rV] at hv;rw[rM,hc (o+j)]
    ·exact hv
    ·rcases rL (o+j) L.length with h|h
     ·exact h
     ·rw[rD h] at hv;cases hv)
   rwa[hlen] at this
  refine .mk' h4 (V:=.agg ((L.drop o).take s).toArray) (by simp[conc,hl]) ?_;simp[loadVar,hagg,ha,hsz,hload]
 ·obtain⟨v,h1,h2⟩:=zEX h
  obtain⟨V,h3,h4⟩:=vI hL h1;have hlt:o<L.length:=by
   rcases rL o L.length with h|h
   ·exact h
   ·rw[rD h] at h4;cases h4
  have:=hc o hlt;rw[h4] at this;refine .mk' h2 h3 ?_;simp only[Bool.not_eq_true] at ha;simp[loadVar,hagg,ha,this]
theorem zKG {g:G} (hg:GOk P g) (hr:Rel P ι m w) {s:Nat} {f:AV->R} (hs:g.size t=some s) (ha:conc ι a=some A) (h:zNa (g.agg t) s m a f=.ok):
  yD P ι w f ((Instr.loadAt t A).run P w):=by
 cases a<;>first|(cases h;done)|skip
 rename_i b o;obtain⟨p,hp,rfl⟩:=yK ha;obtain⟨x,h1,h2⟩:=T.getK_ok (h:m.t.getK b _=.ok);cases x<;>first|(cases h2;done)|skip
 rename_i c e gr z;obtain⟨p',hp',hb⟩:=hr.blk b _ h1;rw[hp] at hp';injection hp' with hp';subst hp'
 obtain⟨L,h3,h4⟩:=zHc hb;have:=zIA hg hs h3 h4 (h2:loadCells (g.agg t) s c o f=.ok)
 simpa[Instr.loadAt,rW] using this
theorem zIP {v:AV} {V:Value} (h:conc ι v=some V) (hv:v.isCell=true):V.oneCell'=true:=by
 cases v<;>first|(cases hv;done)|skip
 case bool=>rw[xL h];rfl
 case int=>rw[z7 h];rfl
 case str=>rw[yR h];rfl
 case ptr=>obtain⟨_,_,rfl⟩:=yK h;rfl
 case nilp=>rw[zAd h];rfl
 case sl=>obtain⟨_,_,rfl⟩:=xU h;rfl
 case nils=>rw[yB h];rfl
 case mp=>obtain⟨_,_,rfl⟩:=zAK h;rfl
 case nilm=>rw[vA h];rfl
 case fn=>obtain⟨_,_,_,_,_,_,rfl⟩:=zA5 h;rfl
 case nilf=>rw[pI h];rfl
 case ifc=>obtain⟨_,_,rfl⟩:=zAS h;rfl
 case nili=>rw[pF h];rfl
 case dead=>obtain⟨_,_,_,rfl⟩:=vG h;rfl
theorem zFA:∀ {l:List AV},qY l=true->∀v∈l,v.isCell=true
 |[],_,v,hv=>by cases hv
 |a::l,h,v,hv=>by
  have h':iteB a.isCell (qY l) false=true:=h;rw[zV] at h';split at h'<;>rename_i ha
  ·rcases List.mem_cons.1 hv with rfl|hv
   ·exact ha
   ·exact zFA h' v hv
  ·cases h'
theorem qX {l:List AV} {L:List Value} (h:concL ι l=some L) (hl:qY l=true):∀V∈L,V.oneCell'=true:=by
 intro V hV;obtain⟨i,hi⟩:=List.mem_iff_getElem?.1 hV;have:i<l.length:=by
  have:=zG h;rcases rL i l.length with h'|h'
  ·exact h'
  ·rw[rD (by omega)] at hi;cases hi
 obtain⟨V',h1,h2⟩:=vI h (rH this);rw[hi] at h2;injection h2 with h2;subst h2
 exact zIP h1 (zFA hl _ (List.getElem_mem this))
structure Stored (w w':World) (b o:Nat) (vs:List Value) (C:Array Value) (e:TypeId) (fz:Nat×Nat):Prop where
 blk:∃C':Array Value,w'.heap[b]? =some (.cells C' e fz)/\C'.size=C.size/\∀j,C'[j]? =if o<=j/\j<o+vs.length then vs[j - o]? else C[j]?
 other:∀k,k≠b->w'.heap[k]? =w.heap[k]?
 size:w'.heap.size=w.heap.size
 os:w'.os=w.os
 tape:w'.tape=w.tape
 output:w'.output=w.output
theorem zAj:∀(vs:List Value) (i:Nat) (w:World) (C:Array Value) (b o:Nat) (e:TypeId) (fz:Nat×Nat),w.heap[b]? =some (.cells C e fz)->o+i+vs.length<=C.size->
  (∀j,o+i<=j->j<o+i+vs.length->¬(fz.1<=j/\j<fz.2))->(∀V∈vs,V.oneCell'=true)->
  ∃w',(Go.storeCells ⟨b,o,none⟩ vs i).run P w=.ok () w'/\Stored w w' b (o+i) vs C e fz
 |[],i,w,C,b,o,e,fz,h,_,_,_=>⟨w,rfl,⟨C,h,rfl,fun j=>by rw[if_neg (by intro hh;simp at hh;omega)]⟩,fun _ _=>rfl,rfl,rfl,rfl,rfl⟩
 |v::vs,i,w,C,b,o,e,fz,h,hs,hf,h1=>by
  simp only[List.length_cons] at hs hf;have hcell:w.cell? ⟨b,o+i,none⟩=some C[o+i]:=by rw[zCB h];exact Array.getElem?_eq_getElem (by omega)
  have hfz:w.frozen? ⟨b,o+i,none⟩=false:=by
   have:=hf (o+i) (by omega) (by omega);simp only[World.frozen?,h]
   simpa using this
  have hst:(store ((⟨b,o,none⟩:Addr).add i) v).run P w=.ok () (w.setCell ⟨b,o+i,none⟩ v):=by
   rw[yO,run_store P w _ v _ (h1 v (by simp)),hcell];simp[hfz]
  have hb:b<w.heap.size:=by
   rcases rL b w.heap.size with h'|h'
   ·exact h'
   ·rw[r2 h'] at h;cases h
  have h':(w.setCell ⟨b,o+i,none⟩ v).heap[b]? =some (.cells (C.setIfInBounds (o+i) v) e fz):=by
   simp[World.setCell,r3,h]
  obtain⟨w',hr,⟨C',k1,k2,k3⟩,k4,k5,k6,k7,k8⟩:=zAj vs (i+1) (w.setCell ⟨b,o+i,none⟩ v) (C.setIfInBounds (o+i) v) b o e fz h' (by simp;omega) (fun j hj1 hj2=>hf j (by omega) (by omega)) (fun V hV=>h1 V (by simp[hV]));refine⟨w',?_,⟨C',k1,by simpa using k2,fun j=>?_⟩,fun k hk=>?_,?_,k6,k7,k8⟩
  ·simp only[Go.storeCells,rI,hst,rF,hr]
  ·rw[k3]
   by_cases hj:j=o+i
   ·subst hj
    rw[if_neg (by omega),if_pos (by simp)];simp;exact Array.getElem?_setIfInBounds_self_of_lt (by omega)
   ·by_cases hj2:o+(i+1)<=j/\j<o+(i+1)+vs.length
    ·rw[if_pos hj2,if_pos (by simp;omega)]
     rw[show j - (o+i)=(j - (o+(i+1)))+1 by omega];simp
    ·rw[if_neg hj2,if_neg (by simp;omega)]
     rw[Array.getElem?_setIfInBounds_ne (by omega)]
  ·rw[k4 k hk]
   simp[World.setCell,r3,Ne.symm hk]
  ·rw[k5];simp[World.setCell]
theorem Step.store (hr:Rel P ι m w) {b o:Nat} {c c':List AV} {e:TypeId} {gr:Bool} {z:Nat} {p:Pl} (hb:m.t.find b b=some (.cells c e gr z)) (hz:Nat.ble z 1=true) (hp:ι b=some p)
  {vs:List AV} {L:List Value} (hL:concL ι vs=some L) (hcell:∀V∈L,V.oneCell'=true) (ho:o+vs.length<=c.length) (hlen:c'.length=c.length)
  (hget:∀i,c'[i]? =if o<=i/\i<o+vs.length then vs[i - o]? else c[i]?) {f:Mem->R} (h:zAq m b (.cells c' e gr z) f=.ok):
  ∃w' m',(Go.storeCells ⟨p.blk,p.delta+o,none⟩ L).run P w=.ok () w'/\f m'=.ok/\Step P ι m w ι m' w':=by
 obtain⟨t',h1,h2⟩:=T.setK_ok (h:m.t.setK b _ _=.ok);obtain⟨p',hp',hb'⟩:=hr.blk b _ hb;rw[hp] at hp';injection hp' with hp';subst hp'
 obtain⟨C,e',fz,LC,k1,k2,k3,k4,k5⟩:=hb';have hz1:=rA hz;obtain⟨rfl,k6,k7,k8⟩:=k5 (by omega);have hLl:=zG hL;have hLCl:=zG k2;have hfz:∀j,j<C.size->¬(fz.1<=j/\j<fz.2):=fun j hj=>by
  rcases(show z=0∨z=1 by omega) with rfl|rfl
  ·rw[k8.1 rfl];simp
  ·rcases k8.2.1 rfl with h|h<;>rw[h]<;>simp;omega
 have hsize:p.delta+c.length<=C.size:=by
  rcases Nat.eq_zero_or_pos c.length with h0|h0
  ·cases gr with
   |false=>obtain⟨d0,d1⟩:=k6 rfl;omega
   |true=>have:=k7 rfl;omega
  ·have h3:=k3 (LC.length - 1) (by omega)
   have:(LC[LC.length - 1]?).isSome=true:=by rw[rH (by omega)];rfl
   rw[<-h3] at this;rcases rL (p.delta+(LC.length - 1)) C.size with h'|h'
   ·omega
   ·rw[r2 h'] at this;cases this
 obtain⟨w',hrun,⟨C',j1,j2,j3⟩,j4,j5,j6,j7,j8⟩:=zAj (P:=P) L 0 w C p.blk (p.delta+o) e' fz k1 (by omega) (fun j _ hj=>hfz j (by omega)) hcell;refine⟨w',_,hrun,h1,Step.put hr hb (by cases z<;>first|rfl|(rename_i n;cases n<;>first|rfl|omega)) hp h2 j5 j4 j6 j7 j8 ?_⟩;have hc':∃L',concL ι c'=some L'/\∀i,i<L'.length->C'[p.delta+i]? =L'[i]? :=by
  have hlen':∀i,i<c'.length->∃v V,c'[i]? =some v/\conc ι v=some V/\C'[p.delta+i]? =some V:=fun i hi=>by
   rw[hget i,j3];by_cases hio:o<=i/\i<o+vs.length
   ·rw[if_pos hio,if_pos (by omega)]
    have hv:vs[i - o]? =some vs[i - o]:=rH (by omega);obtain⟨V,q1,q2⟩:=vI hL hv;refine⟨_,V,hv,q1,?_⟩;rw[show p.delta+i - (p.delta+o+0)=i - o by omega];exact q2
   ·rw[if_neg hio,if_neg (by omega)]
    have hv:c[i]? =some c[i]:=rH (by omega);obtain⟨V,q1,q2⟩:=vI k2 hv;refine⟨_,V,hv,q1,?_⟩;rw[k3 i (by omega)];exact q2
  refine⟨(List.range c'.length).map fun i=>C'.getD (p.delta+i) undef,?_,?_⟩
  ·refine zER (by simp) fun i v hv=>?_
   have hi:i<c'.length:=by
    rcases rL i c'.length with h|h
    ·exact h
    ·rw[rD h] at hv;cases hv
   obtain⟨v',V,q1,q2,q3⟩:=hlen' i hi;rw[hv] at q1;injection q1 with q1;subst q1
   exact⟨V,q2,by simp[hi,rX,q3]⟩
  ·intro i hi
   simp at hi;obtain⟨v',V,q1,q2,q3⟩:=hlen' i hi;simp[hi,rX,q3]
 obtain⟨L',hL',hL''⟩:=hc';refine⟨C',e',fz,L',j1,hL',hL'',k4,fun hz3=>⟨rfl,fun hg=>?_,fun hg=>?_,?_⟩⟩
 ·obtain⟨d0,d1⟩:=k6 hg;exact⟨d0,by omega⟩
 ·rw[j2];exact k7 hg
 ·rw[j2,hlen];exact k8
theorem zNM {g:G} (hg:GOk P g) (hr:Rel P ι m w) {s:Nat} {f:Mem->R} (hs:g.size t=some s) (ha:conc ι a=some A) (hb:conc ι b=some B) (h:zOB s m a b f=.ok):
  ∃w' m',(r0 t A B).run P w=.ok () w'/\f m'=.ok/\Step P ι m w ι m' w':=by
 cases a<;>first|(cases h;done)|skip
 rename_i bl o;obtain⟨p,hp,rfl⟩:=yK ha;obtain⟨x,h1,h2⟩:=T.getK_ok (h:m.t.getK bl _=.ok);cases x<;>first|(cases h2;done)|skip
 rename_i c e gr z;obtain⟨h3,h4⟩:=zB h2;have hsz:=hg.run_size hs w;have fin:∀ {vs:List AV} {c':List AV},b.cells=vs->vs.length=s->qY vs=true->o+vs.length<=c.length->c'.length=c.length->(∀i,c'[i]? =if o<=i/\i<o+vs.length then vs[i - o]? else c[i]?)->
   zAq m bl (.cells c' e gr z) f=.ok->∃w' m',(r0 t (.pointer (some ⟨p.blk,p.delta+o,none⟩)) B).run P w=.ok () w'/\f m'=.ok/\Step P ι m w ι m' w':=fun {vs c'} e1 e2 e3 e4 e5 e6 e7=>by
  have hL:=xO hb;rw[e1] at hL;obtain⟨w',m',k1,k2,k3⟩:=Step.store hr h1 h3 hp hL (qX hL e3) e4 e5 e6 e7;refine⟨w',m',?_,k2,k3⟩;have hl:=zG hL;have:B.cells.size=s:=by simp at hl;omega
  simp[r0,rW,storeVar,hsz,this];exact k1
 have one:xM s c o b (fun c=>zAq m bl (.cells c e gr z) f)=.ok->b.isCell=true->b.cells=[b]->∃w' m',(r0 t (.pointer (some ⟨p.blk,p.delta+o,none⟩)) B).run P w=.ok () w'/\f m'=.ok/\Step P ι m w ι m' w':=fun h0 e1 e2=>by
  obtain⟨h5,h6⟩:=zB h0;obtain⟨h7,h8⟩:=zGm h6;refine fin e2 (rB h5) ?_ (by simp;omega) (by simp) (fun i=>?_) h8
  ·show iteB b.isCell true false=true
   rw[e1];rfl
  ·rw[List.getElem?_set]
   by_cases hi:o=i
   ·subst hi;simp[h7]
   ·rw[if_neg hi,if_neg (by simp;omega)]
 cases b<;>first|(exact one h4 rfl rfl)|skip
 case agg vs=>
  have h4':zAV vs (fun n=>ifB 0 (Nat.beq n s) (ifB 0 (qY vs) (pM c o vs fun c=>zAq m bl (.cells c e gr z) f)))=.ok:=h4;rw[xR] at h4';obtain⟨h5,h6⟩:=zB h4';obtain⟨h7,h8⟩:=zB h6;obtain⟨h9,h10⟩:=zAD h8;exact fin rfl (rB h5) h7 h9 (zAI h9) (p5 h9) h10
 case tup vs=>cases h4
theorem zCu {x:Blk} {f:Nat->Mem->R} (h:zA8 m x f=.ok):∃t',t'.sub m.t m.next x/\f m.next ⟨m.next+1,t'⟩=.ok:=by
 have h':m.t.setK m.next x (fun t=>zS (Nat.succ m.next) fun n'=>f m.next ⟨n',t⟩)=.ok:=h;obtain⟨t',h1,h2⟩:=T.setK_ok h';rw[zN] at h1;exact⟨t',h2,h1⟩
theorem Step.cells (hr:Rel P ι m w) {l:List AV} {L:List Value} {e:TypeId} {gr:Bool} {z:Nat} {f:Nat->Mem->R} (hL:concL ι l=some L) {C:Array Value} {ncap sz:Nat}
  (hC:∀i,i<L.length->C[i]? =L[i]?) (hx:gr=false->C.size=l.length) (hy:gr=true->sz=P.cellsOf e/\1<=sz/\C.size=ncap*sz) (h:zA8 m (.cells l e gr z) f=.ok):
  ∃ι' m',f m.next m'=.ok/\Step P ι m w ι' m' {w with heap:=w.heap.push (.cells C e)}/\ι' m.next=some ⟨w.heap.size,0,ncap,sz⟩:=by
 obtain⟨t',h1,h2⟩:=zCu h;refine⟨ι.set m.next ⟨w.heap.size,0,ncap,sz⟩,_,h2,Step.new hr h1 (p:=⟨w.heap.size,0,ncap,sz⟩) rfl rfl rfl rfl rfl ?_,by simp[Inj.set]⟩;refine⟨C,e,(0,0),L,by simp,vU (Inj.le_set (hr.fresh _ (rO _))) hL,fun i hi=>by simpa using hC i hi,fun hg=>⟨(hy hg).1,(hy hg).2.1⟩,fun _=>⟨rfl,fun hg=>⟨rfl,hx hg⟩,fun hg=>?_,?_⟩⟩
 ·rw[(hy hg).2.2];simp
 ·exact⟨fun _=>rfl,fun _=>.inl rfl,fun _=>Nat.zero_le _⟩
theorem zHW (hr:Rel P ι m w) {e:TypeId} {v:AV} {V:Value} {f:AV->Mem->R} (hv:conc ι v=some V) (h:zA8 m (.cells v.cells e false 0) (fun b m=>f (.ptr b 0) m)=.ok):
  Out P ι m w f ((do pure (.pointer (some (<- newVar e V))):Sem Value).run P w):=by
 obtain⟨ι',m',h1,h2,h3⟩:=Step.cells hr (C:=V.cells) (ncap:=0) (sz:=0) (xO hv) (fun i _=>by simp) (fun _=>by have:=zG (xO hv);simpa using this) (by simp) h;exact⟨_,_,ι',_,m',by simp[newVar,newRow];rfl,h1,h2,by simp[conc,h3]⟩
theorem zOZ {g:G} (hg:GOk P g) (hr:Rel P ι m w) {e:TypeId} {z:AV} {f:AV->Mem->R} (hz:g.zero e=some z) (h:zA8 m (.cells z.cells e false 0) (fun b m=>f (.ptr b 0) m)=.ok):
  Out P ι m w f ((Instr.alloc e true (.tuple #[])).run P w):=by
 obtain⟨Z,h1,h2⟩:=G.zero_ok hg (ι:=ι) hz w;have:=zHW hr h2 h
 simpa[Instr.alloc,h1] using this
theorem zRi (hr:Rel P ι m w) {e:TypeId} {v:AV} {V:Value} {f:AV->Mem->R} (hv:conc ι v=some V) (h:zA8 m (.cells v.cells e false 0) (fun b m=>f (.ptr b 0) m)=.ok):
  Out P ι m w f ((Instr.box e V).run P w):=zHW hr hv h
theorem zCI (off:Nat):∀(vs:List Value) (k:Nat) (C:Array Value),off+k+vs.length<=C.size->
  ((vs.zipIdx k).foldl (fun(cs:Array Value) (x:Value×Nat)=>cs.setIfInBounds (off+x.2) x.1) C).toList=splice C.toList (off+k) vs
 |[],k,C,_=>by simp[splice,over]
 |v::vs,k,C,h=>by
  simp only[List.length_cons] at h;simp only[List.zipIdx_cons,List.foldl_cons];rw[zCI off vs (k+1) _ (by simp;omega)];apply List.ext_getElem?;intro i;rw[p5 (by simp;omega),p5 (by simp;omega)];simp only[Array.toList_setIfInBounds,List.getElem?_set,List.length_cons,rT];by_cases h1:off+(k+1)<=i/\i<off+(k+1)+vs.length
  ·rw[if_pos h1,if_pos (by omega),show i - (off+k)=(i - (off+(k+1)))+1 by omega];simp
  ·rw[if_neg h1]
   by_cases h2:off+k=i
   ·subst h2;rw[if_pos rfl,if_pos (by omega),if_pos (by omega)];simp
   ·rw[if_neg h2,if_neg (by omega)]
theorem zHH (vs C:Array Value) (off:Nat) (h:off+vs.size<=C.size):(vs.zipIdx.foldl (fun cs (x:Value×Nat)=>cs.setIfInBounds (off+x.2) x.1) C).toList=splice C.toList off vs.toList:=by
 rw[<-Array.foldl_toList];have:=zCI off vs.toList 0 C (by simpa using h)
 simpa using this
variable {fr:Fr} {mask:Nat} {act:Act} {g:G}
theorem zCS (hr:Rel P ι m w) (hf:xI P ι fr mask act.tmps) {place:Nat->Option (Nat×Nat)}:∀ {parts:List (Nat×Operand)} {cs:List AV} {CS:Array Value} {f:List AV->R},concL ι cs=some CS.toList->
  pP place fr parts cs f=.ok->∃l L,f l=.ok/\concL ι l=some L/\Instr.fill place CS (parts.map fun p=>(p.1,act.eval p.2))=some L.toArray
 |[],cs,CS,f,hc,h=>⟨cs,CS.toList,h,hc,by simp[Instr.fill]⟩
 |(i,x)::parts,cs,CS,f,hc,h=>by
  have h0:ev x fr (fun v=>zP 0 (place i) fun pl=>zAV v.cells fun n=>ifB 0 (Nat.beq n pl.2) (pM cs pl.1 v.cells fun cs=>pP place fr parts cs f))=.ok:=h;obtain⟨v,h1,h2⟩:=zCa hr hf h0;obtain⟨pl,h3,h4⟩:=zF h1;rw[xR] at h4;obtain⟨h5,h6⟩:=zB h4;obtain⟨h7,h8⟩:=zAD h6;have hv:=xO h2;have hvl:=zG hv;have hcl:=zG hc;have hsz:=rB h5;simp only[rT] at hvl hcl;have hset:=zHH (act.eval x).cells CS pl.1 (by omega);have hc':concL ι (splice cs pl.1 v.cells)=some (splice CS.toList pl.1 (act.eval x).cells.toList):=by
   unfold splice over;exact yC (pC hc _) (by
    have:(act.eval x).cells.toList.length=v.cells.length:=by simp;omega
    rw[this];exact yC hv (q8 (q8 hc _) _))
  rw[<-hset] at hc';obtain⟨l,L,k1,k2,k3⟩:=zCS hr hf hc' h8;refine⟨l,L,k1,k2,?_⟩;simp only[List.map_cons,Instr.fill,h3];rw[if_neg (by simp;omega)]
  simpa using k3
end
section
variable {P:Program} {ι:Inj} {m:Mem} {w:World} {A B:Value} {a b:AV} {t:TypeId} {fr:Fr} {mask:Nat} {act:Act} {g:G}
theorem G.zero_info {P:Program} {g:G} (hg:GOk P g) {t:TypeId} {a:AV} (h:g.zero t=some a) (ι:Inj):∃i z,P.info? t=some i/\i.zero=some z/\conc ι a=some z:=by
 unfold G.zero at h;split at h
 ·rename_i i hi
  split at h
  ·rename_i z hz
   exact⟨i,z,hg.info hi,hz,zIm h⟩
  ·cases h
 ·cases h
theorem zHp (hg:GOk P g):∀ {fs:List Field} {l:List (Nat×Nat)},fs.mapM (fun f=>(g.info f.type).map fun i=>(f.offset,i.size))=some l->
  fs.mapM (fun f=>(P.info? f.type).map fun i=>(f.offset,i.size))=some l
 |[],l,h=>h
 |f::fs,l,h=>by
  simp only[List.mapM_cons,Option.bind_eq_bind,Option.pure_def,r1,rQ] at h ⊢;obtain⟨a,⟨i,hi,rfl⟩,l',hl,h⟩:=h;exact⟨_,⟨i,hg.info hi,rfl⟩,l',zHp hg hl,h⟩
theorem zM3 (hg:GOk P g) (hr:Rel P ι m w) (hf:xI P ι fr mask act.tmps) {parts:Array (Nat×Operand)} {f:AV->R} (h:zD2 g t fr parts.toList f=.ok):
  yD P ι w f ((Instr.build t (parts.map fun(i,x)=>(i,act.eval x))).run P w):=by
 obtain⟨z,h1,h2⟩:=zF h;obtain⟨i,Z,k1,k2,k3⟩:=G.zero_info hg h1 ι;split at h2<;>first|(cases h2;done)|skip
 rename_i zs;obtain⟨L,k4,rfl⟩:=vD k3;have hparts:(parts.map fun(i,x)=>(i,act.eval x)).toList=parts.toList.map fun p=>(p.1,act.eval p.2):=by simp
 split at h2<;>first|(cases h2;done)|skip
 ·rename_i fs hd
  obtain⟨l,h3,h4⟩:=zF h2;obtain⟨c,C,h5,h6,h7⟩:=zCS hr hf (CS:=L.toArray) (by simpa using k4) h4;have hb:P.built t (parts.map fun(i,x)=>(i,act.eval x)).toList=some C.toArray:=by
   have hu:=hg.desc hd (by simp);have hp:=zHp hg h3;unfold Program.built;simp only[k1,hu,k2,hp,hparts]
   simpa[Value.cells] using h7
  exact .mk' h5 (by simp[conc,h6]) (run_build w t _ _ hb)
 ·rename_i n e hd
  obtain⟨s,h3,h4⟩:=zF h2;obtain⟨c,C,h5,h6,h7⟩:=zCS hr hf (CS:=L.toArray) (by simpa using k4) h4;obtain⟨ie,hie,hs⟩:=hg.size h3;have hb:P.built t (parts.map fun(i,x)=>(i,act.eval x)).toList=some C.toArray:=by
   have hu:=hg.desc hd (by simp);unfold Program.built;simp only[k1,hu,k2,hie,hparts,hs]
   simpa[Value.cells] using h7
  exact .mk' h5 (by simp[conc,h6]) (run_build w t _ _ hb)
theorem zDy {α:Type} [Inhabited α] (zero:Array α) (n:Nat) (h:0<zero.size):((Array.range (n*zero.size)).map (fun i=>zero[i % zero.size]!)).toList=(rJ n zero.toList).flatten:=by
 induction n with
 |zero=>simp
 |succ n ih=>
  rw[List.replicate_succ',List.flatten_append,<-ih];apply List.ext_getElem?;intro i;simp only[Array.toList_map,Array.toList_range,List.getElem?_map,List.flatten_singleton];rw[List.getElem?_append];simp only[List.length_map,List.length_range,List.getElem?_map];rw[Nat.succ_mul];by_cases h1:i<n*zero.size
  ·rw[if_pos h1,List.getElem?_range (by omega),List.getElem?_range h1]
  ·rw[if_neg h1]
   by_cases h2:i<n*zero.size+zero.size
   ·rw[List.getElem?_range h2]
    have e:i % zero.size=i - n*zero.size:=by
     have:i=(i - n*zero.size)+n*zero.size:=by omega
     conv=>lhs;rw[this]
     rw[Nat.add_mul_mod_self_right];exact Nat.mod_eq_of_lt (by omega)
    simp only[Option.map_some,e];rw[getElem!_pos zero _ (by omega)];simp
   ·rw[rD (by simp;omega),rD (by simp;omega)]
    rfl
theorem zGH (hg:GOk P g) (hr:Rel P ι m w) (hf:xI P ι fr mask act.tmps) {n:Nat} {parts:Array (Nat×Operand)} {f:AV->Mem->R} (h:pE g t n fr parts.toList m f=.ok):
  Out P ι m w f ((Instr.buildSlice t n (parts.map fun(i,x)=>(i,act.eval x))).run P w):=by
 unfold pE at h;split at h<;>first|(cases h;done)|skip
 rename_i e hd;have hu:=hg.run_desc hd (by simp) w;obtain⟨s,h1,h2⟩:=zF h;obtain⟨h3,h4⟩:=zB h2;obtain⟨h5,h6⟩:=zB h4;obtain⟨z,h7,h8⟩:=zF h6;rw[xR] at h8;obtain⟨h9,h10⟩:=zB h8;rw[zAt] at h10;have hs:=hg.run_size h1 w;obtain⟨Z,k1,k2⟩:=G.zero_ok hg (ι:=ι) h7 w;have hz:=xO k2;have hzl:=zG hz;have hzs:=rB h9;have h1s:=rA h3;simp only[rT] at hzl;have hmany:∀n,concL ι (rJ n z.cells).flatten=some (rJ n Z.cells.toList).flatten:=fun n=>by
  induction n with
  |zero=>simp[concL]
  |succ n ih=>simp only[List.replicate_succ,List.flatten_cons];exact yC hz ih
 obtain⟨zero,hzero,hrow⟩:∃zero:Array Value,((if n*s=0 then pure #[] else do pure (<- zeroValue e).cells:Sem (Array Value)).run P w=.ok zero w)/\
   ((Array.range (n*s)).map (fun i=>zero[i % zero.size]!)).toList=(rJ n Z.cells.toList).flatten:=by
  by_cases hn:n*s=0
  ·refine⟨#[],by simp[hn],?_⟩
   have:n=0:=by
    rcases Nat.mul_eq_zero.1 hn with h|h
    ·exact h
    ·omega
   simp[this]
  ·refine⟨Z.cells,by simp[hn,k1],?_⟩
   have:=zDy Z.cells n (by omega);rw[<-this,show Z.cells.size=s by omega]
 obtain⟨l,L,j1,j2,j3⟩:=zCS hr hf (CS:=(Array.range (n*s)).map (fun i=>zero[i % zero.size]!)) (by rw[hrow];exact hmany n) h10;obtain⟨ι',m',i1,i2,i3⟩:=Step.cells hr (C:=L.toArray) (ncap:=0) (sz:=0) j2 (fun i _=>by simp) (fun _=>by have:=zG j2;simpa using this) (by simp) j1;refine⟨_,_,ι',_,m',?_,i1,i2,by simp[conc,i3];rfl⟩;have hparts:(parts.map fun(i,x)=>(i,act.eval x)).toList=parts.toList.map fun p=>(p.1,act.eval p.2):=by simp
 have hlim:¬(n*s>16777216):=by have:=rA h5;simp at this;omega
 have j3':Instr.fill (fun i=>some (i*s,s)) ((Array.range (n*s)).map fun i=>zero[i % zero.size]!) (parts.toList.map fun p=>(p.1,act.eval p.2))=some L.toArray:=j3;by_cases hn:n*s=0
 ·have hz0:zero= #[]:=by
   rw[if_pos hn] at hzero
   simpa using hzero.symm
  subst hz0;simp only[Instr.buildSlice,rI,hu,rF,hs,Sem.run_ite,hlim,if_false,hparts,if_pos hn,rP];rw[j3'];rfl
 ·have hz0:zero=Z.cells:=by
   rw[if_neg hn] at hzero
   simpa[k1] using hzero.symm
  subst hz0;simp only[Instr.buildSlice,rI,hu,rF,hs,Sem.run_ite,hlim,if_false,hparts,if_neg hn,k1,rP];rw[j3'];rfl
end
section
variable {P:Program} {ι:Inj} {m:Mem} {w:World} {A B:Value} {a b:AV} {t:TypeId} {g:G}
theorem zBz {l:List AV} {L:List Value} (h:concL ι l=some L) (n:Nat):concL ι (rJ n l).flatten=some (rJ n L).flatten:=by
 induction n with
 |zero=>simp[concL]
 |succ n ih=>simp only[List.replicate_succ,List.flatten_cons];exact yC h ih
theorem zGs (hg:GOk P g) (hr:Rel P ι m w) {f:AV->Mem->R} (ha:conc ι a=some A) (hb:conc ι b=some B) (h:zDY g t a b m f=.ok):Out P ι m w f ((r7 t A B).run P w):=by
 unfold zDY at h;split at h<;>first|(cases h;done)|skip
 rename_i e hd;have hu:=hg.run_desc hd (by simp) w;obtain⟨k,l,rfl,h1⟩:=vB h;obtain⟨j,c,rfl,h2⟩:=vB h1;obtain⟨h3,h4⟩:=zB h2;obtain⟨h5,h6⟩:=zB h4;obtain⟨s,h7,h8⟩:=zF h6;obtain⟨h9,h10⟩:=zB h8;obtain⟨z,h11,h12⟩:=zF h10;rw[xR] at h12;obtain⟨h13,h14⟩:=zB h12;obtain⟨ie,h15,h16⟩:=zF h14;obtain⟨h17,h18⟩:=zB h16;rw[zAt] at h18;have hs:=hg.run_size h7 w;have hi:=hg.info h15;obtain⟨Z,k1,k2⟩:=G.zero_ok hg (ι:=ι) h11 w;have hz:=xO k2;have hzl:=zG hz;have hzs:=rB h13;have hs1:=rA h9;have hlc:=rA h3;have hc:=rA h5;have hby:=rA h17;simp only[rT] at hzl;rw[z7 ha,z7 hb];obtain⟨ι',m',i1,i2,i3⟩:=Step.cells hr (C:=(rJ c Z.cells.toList).flatten.toArray) (ncap:=0) (sz:=0) (zBz hz c) (fun i _=>by simp) (fun _=>by rw[r6];exact zG (zBz hz c)) (by simp) h18;refine⟨_,_,ι',_,m',?_,i1,i2,by simp[conc,i3];rfl⟩;have hw1:IntKind.i64.wrap (l:Int)=l:=zAk (by omega) (by omega);have hw2:IntKind.i64.wrap (c:Int)=c:=zAk (by omega) (by omega);have hb1:¬((ie.bytes:Int)*(c:Int)>2 ^ 48):=by
  have h0:((ie.bytes*c:Nat):Int)<=((281474976710656:Nat):Int):=Int.ofNat_le.2 hby
  rw[Int.natCast_mul] at h0;have h1:((281474976710656:Nat):Int)=2 ^ 48:=by decide
  rw[h1] at h0;exact Int.not_lt.2 h0
 have hcond:((decide ((c:Int)<0)||decide ((ie.bytes:Int)*(c:Int)>2 ^ 48))||decide ((l:Int)<0)||decide ((l:Int)>(c:Int)))=false:=by
  simp only[Bool.or_eq_false_iff,decide_eq_false_iff_not];exact⟨⟨⟨by omega,hb1⟩,by omega⟩,by omega⟩
 have hrow:∀zero:Array Value,(c*s=0->zero= #[])->(c*s≠0->zero=Z.cells)->((Array.range (c*s)).map (fun i=>zero[i % zero.size]!))=(rJ c Z.cells.toList).flatten.toArray:=fun zero e1 e2=>by
  apply Array.toList_inj.1;by_cases hn:c*s=0
  ·have:c=0:=by
    rcases Nat.mul_eq_zero.1 hn with h|h
    ·exact h
    ·omega
   simp[this]
  ·rw[e2 hn]
   have:=zDy Z.cells c (by omega);rw[<-this,show Z.cells.size=s by omega]
 simp only[r7,rI,hu,rF,asInt,asIntOf,rP,typeInfo,run_program,hi,hw1,hw2,Sem.run_ite,hcond,Bool.false_eq_true,if_false,run_askRoom,hs,Int.toNat_natCast];by_cases hn:c*s=0
 ·rw[if_pos hn]
  rw[hrow #[] (fun _=>rfl) (fun h=>absurd hn h)];rfl
 ·rw[if_neg hn,k1]
  simp only[rF];rw[hrow Z.cells (fun h=>absurd h hn) (fun _=>rfl)];rfl
def zDP (ι:Inj) (x:Option AV) (X:Option Value):Prop:=match x with|none=>X=none|some v=>∃V,X=some V/\conc ι v=some V
theorem qD {x:Option AV} {X:Option Value} {n:Nat} {k:Nat->R} (hx:zDP ι x X) (h:zAu x n k=.ok):
  ∃i,k i=.ok/\((X=none/\i=n)∨∃j,X=some (.int j (i:Nat))):=by
 cases x with
 |none=>exact⟨n,h,.inl ⟨hx,rfl⟩⟩
 |some v=>
  obtain⟨V,rfl,h2⟩:=hx;obtain⟨j,i,rfl,h3⟩:=vB h;rw[z7 h2];exact⟨i,h3,.inr ⟨j,rfl⟩⟩
theorem pN {j:IntKind} {i y:Nat} {c:BoundsCode} (h:i<=y):(Instr.sliceBound (.int j i) y c).run P w=.ok i w:=by
 have:0<=(i:Int)/\(i:Int)<=y:=by omega
 simp[Instr.sliceBound,asIntOf,this]
theorem qA {vC:Bool} {len cap h l:Nat} {lo hi:Option Value} (hh:(hi=none/\h=len)∨∃j,hi=some (.int j h)) (hl:(lo=none/\l=0)∨∃j,lo=some (.int j l)) (h1:l<=h) (h2:h<=cap):
  (Instr.sliceBounds vC len cap lo hi none).run P w=.ok (l,h,cap) w:=by
 unfold Instr.sliceBounds;rcases hh with⟨rfl,rfl⟩|⟨j,rfl⟩<;>rcases hl with⟨rfl,rfl⟩|⟨k,rfl⟩<;>simp[pN h1,pN h2]
theorem blkOf {b:Nat} {x:Blk} {p:Pl} (hr:Rel P ι m w) (h:m.t.find b b=some x) (hp:ι b=some p):xX P ι p x w:=by
 obtain⟨q,h1,h2⟩:=hr.blk b x h;rw[hp] at h1;injection h1 with h1;subst h1
 exact h2
theorem zM4 (hg:GOk P g) (hr:Rel P ι m w) {s b:Nat} {k:R} {p:Pl} (hp:ι b=some p) (h:zPD g s m b k=.ok):k=.ok/\p.sz=s/\1<=s:=by
 obtain⟨x,h1,h2⟩:=T.getK_ok (h:m.t.getK b _=.ok);split at h2<;>first|(cases h2;done)|skip
 rename_i c e z;obtain⟨s',h3,h4⟩:=zF h2;obtain⟨h5,h6⟩:=zB h4;obtain⟨C,e',fz,L,_,_,_,k4,_⟩:=blkOf hr h1 hp;have e1:p.sz=s:=by rw[(k4 rfl).1,hg.cellsOf h3,rB h5]
 exact⟨h6,e1,e1▸(k4 rfl).2⟩
variable {lo hi:Option AV} {LO HI:Option Value} (hlo:zDP ι lo LO) (hhi:zDP ι hi HI)
include hlo hhi
theorem zK1 (hg:GOk P g) (hr:Rel P ι m w) {e:TypeId} {s b o n:Nat} {cap:Option Nat} {f:AV->Mem->R} (hd:g.desc t=.slice e) (hs:g.size e=some s) (ha:conc ι (.sl b o n cap)=some A)
  (h:zFg g s b o n cap lo hi m f=.ok):Out P ι m w f ((Instr.sliceAt t A LO HI none).run P w):=by
 unfold zFg at h;obtain⟨i,h1,h2⟩:=qD hhi h;obtain⟨l,h3,h4⟩:=qD hlo h1;obtain⟨h5,h6⟩:=zB h3;rw[zN] at h6;simp only[Nat.sub_eq,Nat.add_eq,Nat.mul_eq] at h6;have hli:=rA h5;obtain⟨p,hp,rfl,hcp⟩:=zB4 ha;have hu:=hg.run_desc hd (by simp) w;have hsz:=hg.run_size hs w;have run:∀cp,i<=cp->(Instr.sliceAt t (.slice (some ⟨p.blk,p.delta+o,none⟩) n cp) LO HI none).run P w=
   .ok (.slice (if cp=l then some ⟨p.blk,p.delta+o,none⟩ else some ⟨p.blk,p.delta+(o+l*s),none⟩) (i - l) (cp - l)) w:=fun cp hcp=>by
  have hb:=qA (P:=P) (w:=w) (vC:=true) (len:=n) (cap:=cp) (h:=i) (l:=l) (lo:=LO) (hi:=HI) h2 h4 hli hcp;simp only[Instr.sliceAt,rI,hu,rF,Instr.slice,hb,hsz,rP,Option.map_some,yO,rM]
 cases cap with
 |some c=>
  obtain⟨h7,h8⟩:=zB h6;have hic:=rA h7;rw[zV] at h8;simp only[zDH];split at h8<;>rename_i hcl
  ·have hcl:=rB hcl
   refine yD.out hr (.mk' h8 (by simp[conc,hp];rfl) ?_);rw[run c hic,if_pos hcl,hcl,Nat.sub_self]
  ·have hcl:c≠l:=fun e=>hcl (by simp[e])
   rw[zN,zN] at h8;refine yD.out hr (.mk' h8 (by simp[conc,hp];rfl) ?_);rw[run c hic,if_neg hcl]
 |none=>
  obtain⟨h7,h8⟩:=zB h6;have hin:=rA h7;have hcp:=hcp rfl;simp only[zDH];have hic:i<=p.ncap - o / p.sz:=by omega
  have hrun:=run _ hic;rw[zV] at h8;split at h8<;>rename_i hl0
  ·have hl0:l=0:=rB hl0
   subst hl0;refine yD.out hr (.mk' h8 (zDs hp (by omega)) ?_);rw[hrun];simp only[Nat.sub_zero,r8,Nat.add_zero,ite_self]
  ·have hl0:l≠0:=fun e=>hl0 (by simp[e])
   rw[zV] at h8;split at h8<;>rename_i hd0
   ·
    have hd0:i - l=0:=rB hd0;rw[zN] at h8;have hil:i=l:=by omega
    refine yD.out hr (.mk' h8 (by simp only[conc,hp,Option.map_some];rfl) ?_);rw[hrun,hd0];by_cases hcl:p.ncap - o / p.sz=l
    ·rw[if_pos hcl,if_pos hcl]
    ·rw[if_neg hcl,if_neg hcl]
   ·have hd0:i - l≠0:=fun e=>hd0 (by rw[e];rfl)
    obtain⟨h9,h10,hsp⟩:=zM4 hg hr hp h8;rw[zN] at h9;have hdiv:(o+l*s) / p.sz=o / p.sz+l:=by rw[h10,Nat.add_mul_div_right _ _ hsp]
    refine yD.out hr (.mk' h9 (zDs hp (by rw[hdiv];omega)) ?_);rw[hrun,if_neg (by omega),hdiv];congr 2;omega
end
section
variable {P:Program} {ι:Inj} {m:Mem} {w:World} {A B:Value} {a b:AV} {t:TypeId} {g:G}
section
variable {lo hi:Option AV} {LO HI:Option Value} (hlo:zDP ι lo LO) (hhi:zDP ι hi HI)
include hlo hhi
theorem zJy (hg:GOk P g) (hr:Rel P ι m w) {e:TypeId} {s b o n:Nat} {f:AV->Mem->R} (hd:g.desc t=.array n e) (hs:g.size e=some s) (ha:conc ι (.ptr b o)=some A)
  (h:zEF s b o n lo hi m f=.ok):Out P ι m w f ((Instr.sliceAt t A LO HI none).run P w):=by
 unfold zEF at h;obtain⟨i,h1,h2⟩:=qD hhi h;obtain⟨l,h3,h4⟩:=qD hlo h1;obtain⟨h5,h6⟩:=zB h3;obtain⟨h7,h8⟩:=zB h6;rw[zN,zN] at h8;simp only[Nat.sub_eq,Nat.add_eq,Nat.mul_eq] at h8;have hli:=rA h5;have hin:=rA h7;obtain⟨p,hp,rfl⟩:=yK ha;have hu:=hg.run_desc hd (by simp) w;have hsz:=hg.run_size hs w;have hb:=qA (P:=P) (w:=w) (vC:=false) (len:=n) (cap:=n) (h:=i) (l:=l) (lo:=LO) (hi:=HI) h2 h4 hli hin;have hrun:(Instr.sliceAt t (.pointer (some ⟨p.blk,p.delta+o,none⟩)) LO HI none).run P w=
   .ok (.slice (some (if n=l then⟨p.blk,p.delta+o,none⟩ else⟨p.blk,p.delta+(o+l*s),none⟩)) (i - l) (n - l)) w:=by
  simp only[Instr.sliceAt,rI,hu,rF,rW,hb,hsz,rP,yO,rM]
 rw[zV] at h8;split at h8<;>rename_i hc
 ·have hc:=rB hc
  refine yD.out hr (.mk' h8 (by simp[conc,hp];rfl) ?_);rw[hrun,if_pos (by omega),hc]
 ·have hc:n - l≠0:=fun e=>hc (by rw[e];rfl)
  rw[zN] at h8;refine yD.out hr (.mk' h8 (by simp[conc,hp];rfl) ?_);rw[hrun,if_neg (by omega)]
theorem zMa (hg:GOk P g) (hr:Rel P ι m w) {f:AV->Mem->R} (ha:conc ι a=some A) (h:zBh g t a lo hi m f=.ok):Out P ι m w f ((Instr.sliceAt t A LO HI none).run P w):=by
 unfold zBh at h;split at h<;>first|(cases h;done)|skip
 ·split at h<;>first|(cases h;done)|skip
  rename_i e hd;obtain⟨s,hs,h0⟩:=zF h;exact zK1 hlo hhi hg hr hd hs ha h0
 ·split at h<;>first|(cases h;done)|skip
  rename_i n e hd;obtain⟨s,hs,h0⟩:=zF h;exact zJy hlo hhi hg hr hd hs ha h0
end
theorem zN9 (hg:GOk P g) (hr:Rel P ι m w) {f:AV->Mem->R} {hv jv:AV} {HV JV:Value} (ha:conc ι a=some A) (hh:conc ι hv=some HV) (hj:conc ι jv=some JV) (h:zFF g t a hv jv m f=.ok):
  Out P ι m w f ((Instr.sliceAt t A none (some HV) (some JV)).run P w):=by
 obtain⟨k1,i,rfl,h1⟩:=vB h;obtain⟨k2,j,rfl,h2⟩:=vB h1;rw[z7 hh,z7 hj];obtain⟨h3,h4⟩:=zB h2;have hij:=rA h3;have hb:∀n cap,j<=cap->(Instr.sliceBounds true n cap none (some (.int k1 (i:Nat))) (some (.int k2 (j:Nat)))).run P w=.ok (0,i,j) w:=fun n cap hc=>by
  simp[Instr.sliceBounds,pN hc,pN hij]
 cases a<;>first|(cases h4;done)|skip
 ·rename_i b o n cap
  simp only at h4;split at h4<;>first|(cases h4;done)|skip
  rename_i e hd;obtain⟨s,hs,h5⟩:=zF h4;have hu:=hg.run_desc hd (by simp) w;have hsz:=hg.run_size hs w;obtain⟨p,hp,rfl,hcp⟩:=zB4 ha;have run:∀cp,j<=cp->(Instr.sliceAt t (.slice (some ⟨p.blk,p.delta+o,none⟩) n cp) none (some (.int k1 (i:Nat))) (some (.int k2 (j:Nat)))).run P w=
    .ok (.slice (some ⟨p.blk,p.delta+o,none⟩) i j) w:=fun cp hc=>by
   simp only[Instr.sliceAt,rI,hu,rF,Instr.slice,hb n cp hc,hsz,rP,Option.map_some,r8,Nat.sub_zero];split<;>simp[yO]
  cases cap with
  |some c=>
   obtain⟨h7,h8⟩:=zB h5;refine yD.out hr (.mk' h8 (by simp[conc,hp];rfl) ?_);exact run c (rA h7)
  |none=>
   obtain⟨h7,h8⟩:=zB h5;refine yD.out hr (.mk' h8 (by simp[conc,hp];rfl) ?_);have hcp:=hcp rfl;have:=rA h7;exact run _ (by simp only[zDH];omega)
 ·simp only at h4
  split at h4<;>first|(cases h4;done)|skip
  rename_i e hd;obtain⟨s,hs,h5⟩:=zF h4;obtain⟨h7,h8⟩:=zB h5;have hu:=hg.run_desc hd (by simp) w;have hsz:=hg.run_size hs w;have e1:=rB h7;subst e1;obtain rfl:i=0:=by omega
  rw[yB ha];refine yD.out hr (.mk' h8 (V:=.slice none 0 0) (by simp[conc]) ?_);simp only[Instr.sliceAt,rI,hu,rF,Instr.slice,hb 0 0 (rO _),hsz,rP];simp
theorem zGP {s:Nat} (h:zBW g t=some s) (hi:vC g t=true):∃e,g.desc t=.slice e/\g.size e=some s:=by
 unfold zBW vC at*;split at hi<;>first|(cases hi;done)|skip
 rename_i e hd;rw[hd] at h;exact⟨e,hd,h⟩
theorem zGY {s n:Nat} (h:zBW g t=some s) (hi:zG3 g t=some n):∃e,g.desc t=.array n e/\g.size e=some s:=by
 unfold zBW zG3 at*;split at hi<;>first|(cases hi;done)|skip
 rename_i e hd;rw[hd] at h;injection hi with hi;subst hi
 exact⟨_,hd,h⟩
theorem zBR (hg:GOk P g) {f:AV->R} (ha:conc ι a=some A) (hb:conc ι b=some B) (h:zDK g t a b f=.ok):yD P ι w f ((Instr.indexAt t A B).run P w):=by
 obtain⟨k,i,rfl,h1⟩:=vB h;rw[z7 hb];cases a<;>first|(cases h1;done)|skip
 ·rename_i bl o
  obtain⟨p,hp,rfl⟩:=yK ha;obtain⟨n,h2,h3⟩:=zF (h1:zPS g t bl o i f=.ok);obtain⟨h4,h5⟩:=zB h3;obtain⟨s,h6,h7⟩:=zF h5;rw[zN] at h7;obtain⟨e,hd,hs⟩:=zGY h6 h2;have hu:=hg.run_desc hd (by simp) w;have hsz:=hg.run_size hs w;have hin:i<n:=rA h4;refine .mk' h7 (by simp[conc,hp];rfl) ?_;have hi':0<=(i:Int)/\(i:Int)<n:=by omega
  simp[Instr.indexAt,asIntOf,hu,rW,hi',hsz,yO,rM];intro h;omega
 ·rename_i bl o n c
  obtain⟨p,hp,rfl⟩:=xU ha;obtain⟨h4,h5⟩:=zB (h1:zQS g t bl o n i f=.ok);obtain⟨h2,h3⟩:=zB h5;obtain⟨s,h6,h7⟩:=zF h3;rw[zN] at h7;obtain⟨e,hd,hs⟩:=zGP h6 h2;have hu:=hg.run_desc hd (by simp) w;have hsz:=hg.run_size hs w;have hin:i<n:=rA h4;refine .mk' h7 (by simp[conc,hp];rfl) ?_;have hi':0<=(i:Int)/\(i:Int)<n:=by omega
  simp[Instr.indexAt,asIntOf,hu,hi',hsz,yO,rM];intro h;omega
theorem zJH {i d:Nat} (h:zDt g t i=some d):∃fs fd s,g.desc t=.struct fs/\fs[i]? =some fd/\g.size fd.type=some s/\1<=s/\fd.offset=d:=by
 unfold zDt at h;split at h<;>first|(cases h;done)|skip
 rename_i fd hfd;split at h<;>first|(cases h;done)|skip
 rename_i s hs;unfold zBe at hfd;split at hfd<;>first|(cases hfd;done)|skip
 rename_i fs hd;exact⟨fs,fd,_,hd,hfd,hs,by omega,by simpa using h⟩
theorem zHC (hg:GOk P g) {i:Nat} {f:AV->R} (ha:conc ι a=some A) (h:zGX g t a i f=.ok):yD P ι w f ((Instr.fieldAt t A i).run P w):=by
 cases a<;>first|(cases h;done)|skip
 rename_i bl o;obtain⟨p,hp,rfl⟩:=yK ha;obtain⟨d,h2,h3⟩:=zF (h:zP 0 (zDt g t i) (fun d=>zS (Nat.add o d) fun o=>f (.ptr bl o))=.ok);rw[zN] at h3;obtain⟨fs,fd,s,hd,hfd,hs,hs1,rfl⟩:=zJH h2;have hu:=hg.run_desc hd (by simp) w;have hsz:=hg.run_size hs w;refine .mk' h3 (by simp[conc,hp];rfl) ?_;have hs0:s≠0:=by omega
 simp[Instr.fieldAt,hu,hfd,rW,fieldPlace,hsz,hs0,yO,rM]
theorem zJ0 (hg:GOk P g) {cs:List AV} {L:List Value} {off:Nat} {f:AV->R} (hL:concL ι cs=some L) (h:zME g t cs off f=.ok):yD P ι w f ((part t L.toArray off).run P w):=by
 obtain⟨s,hs,h1⟩:=zF h;have hagg:=hg.run_agg (t:=t) (G.size_desc hs) w;have hsz:=hg.run_size hs w;unfold loadCells at h1;rw[zV] at h1;split at h1<;>rename_i ha
 ·obtain⟨h2,h3⟩:=zAi h1
  obtain⟨h4,h5⟩:=zAT h3;refine .mk' h5 (V:=.agg ((L.drop off).take s).toArray) (by simp[conc,pC (q8 hL off) s]) ?_;simp[part,hagg,ha,hsz]
 ·obtain⟨v,h2,h3⟩:=zEX h1
  obtain⟨V,h4,h5⟩:=vI hL h2;simp only[Bool.not_eq_true] at ha;refine .mk' h3 h4 ?_;simp[part,hagg,ha,h5]
theorem zMY (hg:GOk P g) {cs:List AV} {i:Nat} {fd:Field} {f:AV->R} (ha:conc ι (.agg cs)=some A) (hfd:zBe g t i=some fd) (h:zME g fd.type cs fd.offset f=.ok):yD P ι w f ((Instr.field t A i).run P w):=by
 obtain⟨L,hL,rfl⟩:=vD ha;obtain⟨v,V,h1,h2,h3⟩:=zJ0 (w:=w) hg hL h;unfold zBe at hfd;split at hfd<;>first|(cases hfd;done)|skip
 rename_i fs hd;have hu:=hg.run_desc hd (by simp) w;refine .mk' h1 h2 ?_;simp[Instr.field,hu,hfd,asAgg,h3]
theorem zMX (hg:GOk P g) {f:AV->R} (ha:conc ι a=some A) (hb:conc ι b=some B) (h:zO4 g t a b f=.ok):yD P ι w f ((rAb t A B).run P w):=by
 obtain⟨k,i,rfl,h1⟩:=vB h;rw[z7 hb];split at h1<;>first|(cases h1;done)|skip
 ·rename_i s
  split at h1<;>first|(cases h1;done)|skip
  rename_i hd;obtain⟨x,h2,h3⟩:=zEX h1;rw[zN] at h3;have hlt:i<s.length:=by
   rcases rL i s.length with h|h
   ·exact h
   ·rw[rD h] at h2;cases h2
  rw[yR ha];have hrun:=run_index_string (P:=P) w t ⟨s.toArray⟩ k (i:Int) (hg.desc hd (by simp));have hx:s[i]=x:=by rw[rH hlt] at h2;injection h2
  refine .mk' h3 (V:=.int .u8 x.toNat) (by simp[conc]) ?_;rw[hrun,dif_pos ⟨by omega,by rw[zCN];omega⟩];congr 3;rw[<-hx];rfl
 ·rename_i cs
  split at h1<;>first|(cases h1;done)|skip
  rename_i n e hd;obtain⟨L,hL,rfl⟩:=vD ha;obtain⟨h2,h3⟩:=zB h1;obtain⟨s,h4,h5⟩:=zF h3;have hu:=hg.run_desc hd (by simp) w;have hsz:=hg.run_size h4 w;obtain⟨v,V,k1,k2,k3⟩:=zJ0 (w:=w) hg hL h5;have hin:i<n:=rA h2;have hi':0<=(i:Int)/\(i:Int)<n:=by omega
  refine .mk' k1 k2 ?_;simp[rAb,asIntOf,hu,hi',hsz];rw[if_pos hin];exact k3
theorem zAh (h:vC g t=true):∃e,g.desc t=.slice e:=by
 unfold vC at h;split at h<;>first|(cases h;done)|exact⟨_,by assumption⟩
theorem zFB (h:zBY g t=true):g.desc t=.string:=by
 unfold zBY at h;split at h<;>first|(cases h;done)|assumption
theorem zG5 (h:zHv g t=true):∃k e,g.desc t=.map k e:=by
 unfold zHv at h;split at h<;>first|(cases h;done)|exact⟨_,_,by assumption⟩
theorem yN.length:∀ {es:List Ent} {Es:List MapEntry},yN ι es Es->Es.length=es.length
 |[],[],_=>rfl
 |[],_::_,h=>h.elim
 |_::_,[],h=>h.elim
 |_::_,_::_,h=>by simp[h.2.length]
theorem zQF (hg:GOk P g) (hr:Rel P ι m w) {f:AV->R} (ha:conc ι a=some A) (h:zSy g t a m f=.ok) {ts:Array TypeId} {args:Array Value} (ht:ts[0]? =some t) (hargs:args[0]? =some A) (ty:TypeId):
  yD P ι w f ((Builtin.len_ ts ty args).run P w):=by
 cases a<;>first|(cases h;done)|skip
 ·rename_i s
  obtain⟨h1,h2⟩:=zB h;rw[xR] at h2;have hu:=hg.run_desc (zFB h1) (by simp) w;rw[yR ha] at hargs;refine .mkInt h2 (n':=s.length) ?_;simp[Builtin.len_,ht,hargs,hu,goInt,zCN]
 ·rename_i b o n c
  obtain⟨h1,h2⟩:=zB h;obtain⟨e,hd⟩:=zAh h1;have hu:=hg.run_desc hd (by simp) w;obtain⟨p,hp,rfl⟩:=xU ha;refine .mkInt h2 (n':=n) ?_;simp[Builtin.len_,ht,hargs,hu,goInt]
 ·obtain⟨h1,h2⟩:=zB h
  obtain⟨e,hd⟩:=zAh h1;have hu:=hg.run_desc hd (by simp) w;rw[yB ha] at hargs;refine .mkInt h2 (n':=0) ?_;simp[Builtin.len_,ht,hargs,hu,goInt]
 ·obtain⟨h1,h2⟩:=zB h
  obtain⟨k,e,hd⟩:=zG5 h1;have hu:=hg.run_desc hd (by simp) w;rw[vA ha] at hargs;refine .mkInt h2 (n':=0) ?_;simp[Builtin.len_,ht,hargs,hu,goInt]
 ·obtain⟨h1,h2⟩:=zB h
  obtain⟨e,hd⟩:=zAh h1;have hu:=hg.run_desc hd (by simp) w;obtain⟨_,_,_,rfl⟩:=vG ha;refine .mkInt h2 (n':=0) ?_;simp[Builtin.len_,ht,hargs,hu,goInt]
theorem zLa (hg:GOk P g) (h:zIt g t=true):(Instr.makeInterface t A).run P w=.ok (.iface t A) w:=by
 unfold zIt at h;split at h<;>first|(cases h;done)|skip
 rename_i n1 n2;have hd:g.desc t≠.invalid:=fun e=>n2 e
 have hu:=hg.run_desc (d:=g.desc t) rfl hd w;simp only[Instr.makeInterface,rI,hu,rF];generalize hq:g.desc t=d at*;cases d<;>first|rfl|(exact absurd rfl (n1 _))
theorem zKl {i:Nat} {vs:List AV} {f:AV->R} (ha:conc ι (.tup vs)=some A) (h:zJi vs i f=.ok):yD P ι w f ((Instr.extract A i).run P w):=by
 obtain⟨L,hL,rfl⟩:=zC1 ha;obtain⟨v,h1,h2⟩:=zEX h;obtain⟨V,h3,h4⟩:=vI hL h1;refine .mk' h2 h3 ?_;simp[Instr.extract,h4]
theorem zRu {op:UnOp} {f:AV->R} (ha:conc ι a=some A) (h:unK op a f=.ok):yD P ι w f ((Op.unary op A).run P w):=by
 unfold unK at h;split at h<;>first|(cases h;done)|skip
 ·rename_i b
  rw[zA3] at h;rw[xL ha];exact .mk' h (V:=.bool (!b)) (by simp[conc]) (by simp[Op.unary])
 ·rename_i k n
  have h1:=zBC ((qR _ _).symm.trans h);rw[z7 ha];refine .mkInt h1 (n':=k.wrap (0 - n)) (by simp[Op.unary,Op.intArith]) ?_;rw[Int.zero_sub];rfl
theorem zIY {o:Oper} {x:Operand} {ρ:Operand->Value} {f:AV->R} (ho:o.op=.nilCheck x) (ha:conc ι a=some (ρ x)) (h:zE9 a f=.ok):f a=.ok/\(execOp ρ o).run P w=.ok (.value (ρ x)) w:=by
 unfold zE9 at h;split at h
 ·obtain⟨_,_,e⟩:=yK ha
  exact⟨h,by simp only[execOp,ho,e];rfl⟩
 ·cases h
end
section
variable {P:Program} {ι:Inj} {m:Mem} {w:World} {A B:Value} {a b:AV} {t:TypeId} {g:G}
theorem zLl {α β:Type} {gg:α->(β->R)->R} {Q:α->β->Prop} (hq:∀a k,gg a k=.ok->∃b,k b=.ok/\Q a b):∀ {l:List α} {f:List β->R},zHK gg l f=.ok->
  ∃r,f r=.ok/\r.length=l.length/\∀(i:Nat) a b,l[i]? =some a->r[i]? =some b->Q a b
 |[],f,h=>⟨[],h,rfl,by simp⟩
 |a::l,f,h=>by
  obtain⟨b,h1,h2⟩:=hq a _ (h:gg a (fun b=>zHK gg l fun l=>f (b::l))=.ok);obtain⟨r,h3,h4,h5⟩:=zLl hq h1;refine⟨b::r,h3,by simp[h4],fun i x y hx hy=>?_⟩;cases i with
  |zero=>simp at hx hy;subst hx hy;exact h2
  |succ i=>exact h5 i x y (by simpa using hx) (by simpa using hy)
theorem zDb (hr:Rel P ι m w) {s:Nat} {f:Nat->List AV->R} (ha:conc ι a=some A) (h:zAN s m a f=.ok):
  ∃n l L,f n l=.ok/\concL ι l=some L/\l.length=n*s/\∀w':World,w'.heap=w.heap->(rE A).run P w'=.ok n w'/\∀k,k<=n->(rC s k A).run P w'=.ok (L.take (k*s)).toArray w':=by
 unfold zAN at h;split at h<;>first|(cases h;done)|skip
 ·rw[yB ha]
  exact⟨0,[],[],h,by simp[concL],by simp,fun w' _=>⟨by simp[rE],fun k _=>by simp[rC]⟩⟩
 ·obtain⟨_,_,_,rfl⟩:=vG ha
  exact⟨0,[],[],h,by simp[concL],by simp,fun w' _=>⟨by simp[rE],fun k hk=>by simp[Nat.le_zero.1 hk,rC,Go.loadCells,loadCellsFrom]⟩⟩
 ·rename_i b o n c
  obtain⟨p,hp,rfl⟩:=xU ha;rw[zV] at h;split at h<;>rename_i hn
  ·have hn:=rB hn
   subst hn;exact⟨0,[],[],h,by simp[concL],by simp,fun w' _=>⟨by simp[rE],fun k hk=>by simp[Nat.le_zero.1 hk,rC,Go.loadCells,loadCellsFrom]⟩⟩
  ·obtain⟨x,h1,h2⟩:=T.getK_ok (h:m.t.getK b _=.ok)
   split at h2<;>first|(cases h2;done)|skip
   rename_i c' e gr z;obtain⟨h3,h4⟩:=zAi h2;obtain⟨h5,h6⟩:=zAT h4;obtain⟨L,k1,k2⟩:=zHc (blkOf hr h1 hp);have hl:=pC (q8 k1 o) (n*s);have hlen:=zG k1;simp only[Nat.mul_eq] at h5 h6;have hlen2:((L.drop o).take (n*s)).length=n*s:=by
    simp at h5;simp;omega
   refine⟨n,_,(L.drop o).take (n*s),h6,hl,by simp at h5;simp;omega,fun w' hw'=>⟨by simp[rE],fun k hk=>?_⟩⟩;have hks:k*s<=n*s:=rS _ hk;have:=run_loadCells_list (P:=P) w' ⟨p.blk,p.delta+o,none⟩ ((L.drop o).take (k*s)) (fun j v hv=>by
    rw[yO];have hj:j<k*s:=by
     rcases rL j (k*s) with h|h
     ·exact h
     ·rw[rD (by simp;omega)] at hv;cases hv
    rw[rU,if_pos hj,rV] at hv;rw[rM,show w'.cell? ⟨p.blk,p.delta+(o+j),none⟩=w.cell? ⟨p.blk,p.delta+(o+j),none⟩ by simp[World.cell?,hw'],k2 (o+j)]
    ·exact hv
    ·rcases rL (o+j) L.length with h|h
     ·exact h
     ·rw[rD h] at hv;cases hv)
   rw[show((L.drop o).take (k*s)).length=k*s by simp at hlen2 ⊢;omega] at this;rw[List.take_take,Nat.min_eq_left hks]
   simpa[rC] using this
 ·rename_i bs
  obtain⟨h0,h'⟩:=zB h;have hs1:=rB h0;subst hs1;obtain⟨r,h1,h2,h3⟩:=zLl (Q:=fun u v=>v=AV.int .u8 (u.toNat:Nat)) (fun u k hk=>⟨_,(zN _ _).symm.trans hk,rfl⟩) h';rw[xR] at h1;rw[yR ha];have hr':r=bs.map fun u=>AV.int .u8 (u.toNat:Nat):=by
   apply List.ext_getElem?;intro i;rw[List.getElem?_map];by_cases hi:i<bs.length
   ·have hx:r[i]? =some r[i]:=rH (by omega)
    have hb:bs[i]? =some bs[i]:=rH hi;rw[hx,hb,h3 i _ _ hb hx];rfl
   ·rw[rD (by omega),rD (by omega)];rfl
  have hconc:∀l:List UInt8,concL ι (l.map fun u=>AV.int .u8 (u.toNat:Nat))=some (l.map fun u=>Value.int .u8 (u.toNat:Nat)):=fun l=>by
   induction l with
   |nil=>simp[concL]
   |cons x l ih=>simp[concL,conc,ih]
  refine⟨r.length,r,bs.map fun u=>Value.int .u8 (u.toNat:Nat),h1,by rw[hr'];exact hconc bs,by omega,fun w' _=>⟨by simp[rE,zCN,h2],fun k hk=>?_⟩⟩;simp only[rC,rP];congr 1;apply Array.toList_inj.1;simp[ByteArray.extract,ByteArray.copySlice,List.map_take]
theorem zCK (hr:Rel P ι m w) {s:Nat} {f:Nat->List AV->R} (ha:conc ι a=some A) (h:zAN s m a f=.ok):
  ∃n l L,f n l=.ok/\concL ι l=some L/\l.length=n*s/\∀w':World,w'.heap=w.heap->(rE A).run P w'=.ok n w'/\(rC s n A).run P w'=.ok L.toArray w':=by
 obtain⟨n,l,L,h1,h2,h3,h4⟩:=zDb hr ha h;refine⟨n,l,L,h1,h2,h3,fun w' hw'=>⟨(h4 w' hw').1,?_⟩⟩;have:=(h4 w' hw').2 n (rO _);rwa[List.take_of_length_le (by rw[zG h2,h3];exact rO _)] at this
end
section
variable {P:Program} {ι:Inj} {m:Mem} {w w':World} {A B:Value} {a b:AV} {t:TypeId} {g:G}
theorem Step.rename (hr:Rel P ι m w) {b:Nat} {x x':Blk} {p q:Pl} (hb:m.t.find b b=some x) (hwx:x.writable=true) (hp:ι b=some p) {t1 t':T Blk}
  (ht1:∀c y,t1.find c c=some y->c≠b/\m.t.find c c=some y) (ht:t'.sub t1 m.next x') (hq:q.blk=p.blk)
  (hs:w'.heap.size=w.heap.size) (hw:∀k,k≠p.blk->w'.heap[k]? =w.heap[k]?) (hos:w'.os=w.os) (htp:w'.tape=w.tape) (hout:w'.output=w.output) (hx:xX P (ι.set m.next q) q x' w'):
  Step P ι m w (ι.set m.next q) ⟨m.next+1,t'⟩ w':=by
 have hle:ι.le (ι.set m.next q):=Inj.le_set (hr.fresh _ (rO _));have hne:∀b x,m.t.find b b=some x->b≠m.next:=fun b x hx e=>by
  obtain⟨q,h1,_⟩:=hr.blk b x hx;rw[e,hr.fresh _ (rO _)] at h1;cases h1
 have hback:∀b x,m.t.find b b=some x->∀r,(ι.set m.next q) b=some r->ι b=some r:=fun b x hx r hq=>by
  simp only[Inj.set,if_neg (hne b x hx)] at hq;exact hq
 have hself:(ι.set m.next q) m.next=some q:=by simp[Inj.set]
 have hother:∀c y,m.t.find c c=some y->c≠b->∀r,ι c=some r->r.blk≠p.blk:=fun c y hy hc r hr' e=>hc (hr.apart b c x y p r hb hy hp hr' e.symm hwx).symm
 refine⟨hle,⟨fun c hc=>?_,fun g hg=>let⟨r,h1,h2⟩:=hr.low g hg;⟨r,hle _ _ h1,h2⟩,fun c y hy=>?_,fun c d y z r s hy hz hr' hs' he hwr=>?_⟩,by omega,fun k _ hn=>hw k fun e=>hn ⟨b,x,p,hb,hwx,hp,e.symm⟩,?_,hos,htp,hout,Nat.le_succ _,?_,?_⟩
 ·simp only[Inj.set]
  rw[if_neg (by simp at hc;omega)];exact hr.fresh c (by simp at hc;omega)
 ·rcases ht c y hy with⟨rfl,rfl⟩|⟨_,hy1⟩
  ·exact⟨q,hself,hx⟩
  ·obtain⟨hcb,hy'⟩:=ht1 c y hy1
   obtain⟨r,h1,h2⟩:=hr.blk c y hy';exact⟨r,hle _ _ h1,(h2.mono hle).at (hw _ (hother c y hy' hcb r h1))⟩
 ·rcases ht c y hy with⟨rfl,rfl⟩|⟨hc1,hy1⟩<;>rcases ht d z hz with⟨rfl,rfl⟩|⟨hd1,hz1⟩
  ·rfl
  ·obtain⟨hdb,hz'⟩:=ht1 d z hz1
   rw[hself] at hr';injection hr' with hr';subst hr'
   exact absurd (he.symm.trans hq) (hother d z hz' hdb s (hback d z hz' s hs'))
  ·obtain⟨hcb,hy'⟩:=ht1 c y hy1
   rw[hself] at hs';injection hs' with hs';subst hs'
   exact absurd (he.trans hq) (hother c y hy' hcb r (hback c y hy' r hr'))
  ·obtain⟨hcb,hy'⟩:=ht1 c y hy1
   obtain⟨hdb,hz'⟩:=ht1 d z hz1;exact hr.apart c d y z r s hy' hz' (hback c y hy' r hr') (hback d z hz' s hs') he hwr
 ·rintro k _ ⟨c,y,r,hy,hwr,hr',e⟩
  rcases ht c y hy with⟨rfl,rfl⟩|⟨_,hy1⟩
  ·rw[hself] at hr';injection hr' with hr';subst hr'
   exact⟨b,x,p,hb,hwx,hp,hq▸e⟩
  ·obtain⟨_,hy'⟩:=ht1 c y hy1
   exact⟨c,y,r,hy',hwr,hback c y hy' r hr',e⟩
 ·intro c hc hn'
  simp only[Inj.set];rw[if_neg (by omega)];exact hn'
 ·rintro k _ ⟨c,y,r,hy,hr',e⟩
  rcases ht c y hy with⟨rfl,rfl⟩|⟨_,hy1⟩
  ·rw[hself] at hr';injection hr' with hr';subst hr'
   exact⟨b,x,p,hb,hp,hq▸e⟩
  ·obtain⟨_,hy'⟩:=ht1 c y hy1
   exact⟨c,y,r,hy',hback c y hy' r hr',e⟩
structure App (P:Program) (ts:Array TypeId) (args:Array Value) (t u e:TypeId) (ie:TypeInfo) (Z S X:Value):Prop where
 ts0:ts[0]? =some t
 ts1:ts[1]? =some u
 a0:args[0]? =some S
 a1:args[1]? =some X
 ht:P.underlying t=some (.slice e)
 hu:(∃d,P.underlying u=some (.slice d))∨P.underlying u=some .string
 hi:P.info? e=some ie
 hz:ie.zero=some Z
 zl:Z.cells.size=ie.size
 s1:1<=ie.size
variable {ts:Array TypeId} {args:Array Value} {u e ty:TypeId} {ie:TypeInfo} {Z S X:Value}
theorem zGQ {ad:Addr} {sLen sCap n:Nat} {NEW:List Value} (h:App P ts args t u e ie Z (.slice (some ad) sLen sCap) X) (hn:(rE X).run P w=.ok n w)
  (hx:(rC ie.size n X).run P w=.ok NEW.toArray w) (hfit:sLen+n<=sCap) (hst:(Go.storeCells (ad.add (sLen*ie.size)) NEW).run P w=.ok () w'):
  (rG ts ty args).run P w=.ok (.slice (some ad) (sLen+n) sCap) w':=by
 rcases h.hu with⟨d,hu⟩|hu<;>simp[rG,h.ts0,h.ts1,h.a0,h.a1,rR h.ht,rR hu,sizeOf,typeInfo,h.hi,hn,hx,hfit,hst]
theorem zLC {base:Option Addr} {sLen sCap n:Nat} {OLD NEW:List Value} (h:App P ts args t u e ie Z (.slice base sLen sCap) X) (hn:(rE X).run P w=.ok n w)
  (hx:∀k,(rC ie.size n X).run P {w with drawn:=k}=.ok NEW.toArray {w with drawn:=k})
  (ho:∀k,(rC ie.size sLen (.slice base sLen sCap)).run P {w with drawn:=k}=.ok OLD.toArray {w with drawn:=k}) (hfit:sCap<sLen+n)
  (hol:OLD.length=sLen*ie.size) (hnl:NEW.length=n*ie.size) (h1:sLen+n<=1099511627776) (h2:ie.bytes*(2*(sLen+n)+200)<=281474976710656):
  ∃(nc:Nat) (C:Array Value),(rG ts ty args).run P w=.ok (.slice (some ⟨w.heap.size,0,none⟩) (sLen+n) nc) {w.drew with heap:=w.heap.push (.cells C e)}/\sLen+n<=nc/\C.size=nc*ie.size/\
   ∀i,i<(OLD++NEW).length->C[i]? =(OLD++NEW)[i]? :=by
 have hn':¬(sLen+n<=sCap):=by omega
 have h63:¬(9223372036854775807<((sLen:Int)+(n:Int))):=by omega
 have hb:Builtin.nextslicecap (sLen+n) sCap*ie.bytes<=281474976710656:=by
  refine rAa (rS _ (nextslicecap_le hfit)) (rAa ?_ h2);rw[r9];exact Nat.mul_le_mul_left _ (by omega)
 have h48:¬(281474976710656<Builtin.nextslicecap (sLen+n) sCap*ie.bytes):=by omega
 have hge:=grownCap_ge w (sLen+n) sCap e;have hx':(rC ie.size n X).run P w.drew=.ok NEW.toArray w.drew:=hx _;have ho':(rC ie.size sLen (.slice base sLen sCap)).run P w.drew=.ok OLD.toArray w.drew:=ho _;have hrun:(rG ts ty args).run P w=.ok (.slice (some ⟨w.heap.size,0,none⟩) (sLen+n) (grownCap w (sLen+n) sCap e))
   (w.drew.alloc (.cells (OLD.toArray++NEW.toArray++rN Z.cells (grownCap w (sLen+n) sCap e - (sLen+n))) e)):=by
  rcases h.hu with⟨d,hu⟩|hu<;>simp[rG,h.ts0,h.ts1,h.a0,h.a1,rR h.ht,rR hu,sizeOf,typeInfo,zeroValue,h.hi,h.hz,hn,hn',h63,h48,Question.forced,hx',ho',newRow,grownCap]
  all_goals (congr 2;apply Array.ext';simp[List.append_assoc])
 refine⟨grownCap w (sLen+n) sCap e,OLD.toArray++NEW.toArray++rN Z.cells (grownCap w (sLen+n) sCap e - (sLen+n)),hrun,hge,?_,fun i hi=>?_⟩
 ·simp only[rN,Array.size_append,Array.size_map,Array.size_range,r6,hol,hnl,h.zl,<-r4]
  congr 1;omega
 ·rw[Array.getElem?_append_left (by simp at hi ⊢;omega)]
  simp
end
section
variable {P:Program} {ι:Inj} {m:Mem} {w w':World} {A B:Value} {a b:AV} {t:TypeId} {g:G} {ts:Array TypeId} {args:Array Value} {u e ty:TypeId} {ie:TypeInfo} {Z S X:Value}
theorem zHl {by' need:Nat} {k:R} (h:zKv by' need k=.ok):k=.ok/\need<=1099511627776/\by'*(2*need+200)<=281474976710656:=by
 obtain⟨h1,h2⟩:=zB h;obtain⟨h3,h4⟩:=zB h2;exact⟨h4,rA h1,rA h3⟩
theorem zFQ {m1:Mem} {ι1:Inj} (hst:Step P ι m w ι1 m1 w) {f:AV->Mem->R} {base:Option Addr} {sLen sCap n:Nat} {old new:List AV} {OLD NEW:List Value} {z:Nat}
  (hp:App P ts args t u e ie Z (.slice base sLen sCap) X) (hse:P.cellsOf e=ie.size) (hX:∀w':World,w'.heap=w.heap->(rE X).run P w'=.ok n w'/\(rC ie.size n X).run P w'=.ok NEW.toArray w')
  (hS:∀w':World,w'.heap=w.heap->(rC ie.size sLen (.slice base sLen sCap)).run P w'=.ok OLD.toArray w') (hfit:sCap<sLen+n)
  (hold:concL ι1 old=some OLD) (hnew:concL ι1 new=some NEW) (hol:old.length=sLen*ie.size) (hnl:new.length=n*ie.size)
  (h1:sLen+n<=1099511627776) (h2:ie.bytes*(2*(sLen+n)+200)<=281474976710656)
  (h:zA8 m1 (.cells (old++new) e true z) (fun b m=>f (.sl b 0 (sLen+n) none) m)=.ok):Out P ι m w f ((rG ts ty args).run P w):=by
 obtain⟨nc,C,hrun,hnc,hC,hget⟩:=zLC (ty:=ty) hp (hX w rfl).1 (fun k=>(hX {w with drawn:=k} rfl).2) (fun k=>hS {w with drawn:=k} rfl) hfit (by rw[zG hold,hol]) (by rw[zG hnew,hnl]) h1 h2;have hd:Step P ι1 m1 w ι1 m1 w.drew:=Step.drew hst.rel (w.drawn+1);obtain⟨ι',m',i1,i2,i3⟩:=Step.cells hd.rel (C:=C) (ncap:=nc) (sz:=ie.size) (yC hold hnew) hget (by simp) (fun _=>⟨hse.symm,hp.s1,hC⟩) h;refine⟨_,_,ι',_,m',hrun,i1,(hst.trans hd).trans i2,?_⟩;simp[conc,i3];exact hnc
theorem zDj (hr:Rel P ι m w) {f:AV->Mem->R} {sLen sCap n:Nat} {base:Option Addr} {new:List AV} {NEW:List Value} {by':Nat} (ha:conc ι a=some (.slice base sLen sCap))
  (hp:App P ts args t u e ie Z (.slice base sLen sCap) X) (hse:P.cellsOf e=ie.size) (hby:ie.bytes=by') (hX:∀w':World,w'.heap=w.heap->(rE X).run P w'=.ok n w'/\(rC ie.size n X).run P w'=.ok NEW.toArray w')
  (hfit:sCap<sLen+n) (hnew:concL ι new=some NEW) (hnl:new.length=n*ie.size)
  (h:zE0 e ie.size by' a (sLen+n) new m f=.ok):Out P ι m w f ((rG ts ty args).run P w):=by
 obtain⟨h1,h2,h3⟩:=zHl h;obtain⟨k,old,OLD,h4,h5,h6,h7⟩:=zCK hr ha h1;rw[q5] at h4;have hk:k=sLen:=by
  have:=(h7 w rfl).1;simp[rE] at this;exact this.symm
 subst hk;exact zFQ (.refl hr) hp hse hX (fun w' hw'=>(h7 w' hw').2) hfit h5 hnew h6 hnl h2 (hby▸h3) h4
theorem zHF (hr:Rel P ι m w) {f:AV->Mem->R} {bl o sLen c n:Nat} {new:List AV} {NEW:List Value} (ha:conc ι (.sl bl o sLen (some c))=some S)
  (hp:App P ts args t u e ie Z S X) (hX:∀w':World,w'.heap=w.heap->(rE X).run P w'=.ok n w'/\(rC ie.size n X).run P w'=.ok NEW.toArray w')
  (hfit:sLen+n<=c) (hnew:concL ι new=some NEW)
  (h:zGD ie.size bl o sLen (sLen+n) c new m f=.ok):Out P ι m w f ((rG ts ty args).run P w):=by
 obtain⟨p,hpl,rfl⟩:=xU ha;obtain⟨h1,h2⟩:=zB h;obtain⟨x,h3,h4⟩:=T.getK_ok (h2:m.t.getK bl _=.ok);split at h4<;>first|(cases h4;done)|skip
 rename_i cs e' gr z;obtain⟨h5,h6⟩:=zB h4;obtain⟨h7,h8⟩:=zAD h6;simp only[Nat.add_eq,Nat.mul_eq] at h7 h8;obtain⟨w',m',k1,k2,k3⟩:=Step.store hr h3 h5 hpl hnew (qX hnew h1) h7 (zAI h7) (p5 h7) h8;refine⟨_,w',ι,_,m',zGQ hp (hX w rfl).1 (hX w rfl).2 hfit ?_,k2,k3,by simp[conc,hpl,zDH]⟩;rw[yO,rM];exact k1
theorem zG2 {p:Pl} {L:List Value} {o s n cap:Nat} (hL:∀i,i<L.length->w.cell? ⟨p.blk,p.delta+i,none⟩=L[i]?) (hlen:o+n*s<=L.length) {w':World} (hw':w'.heap=w.heap):
  (rC s n (.slice (some ⟨p.blk,p.delta+o,none⟩) n cap)).run P w'=.ok ((L.drop o).take (n*s)).toArray w':=by
 have:=run_loadCells_list (P:=P) w' ⟨p.blk,p.delta+o,none⟩ ((L.drop o).take (n*s)) (fun j v hv=>by
  rw[yO];have hj:j<n*s:=by
   rcases rL j (n*s) with h|h
   ·exact h
   ·rw[rD (by simp;omega)] at hv;cases hv
  rw[rU,if_pos hj,rV] at hv;rw[rM,show w'.cell? ⟨p.blk,p.delta+(o+j),none⟩=w.cell? ⟨p.blk,p.delta+(o+j),none⟩ by simp[World.cell?,hw'],hL (o+j) (by omega)];exact hv)
 rw[show((L.drop o).take (n*s)).length=n*s by simp;omega] at this
 simpa[rC] using this
theorem zHG (hr:Rel P ι m w) {f:AV->Mem->R} {bl o sLen n:Nat} {new:List AV} {NEW:List Value} {by':Nat} (ha:conc ι (.sl bl o sLen none)=some S)
  (hp:App P ts args t u e ie Z S X) (hse:P.cellsOf e=ie.size) (hby:ie.bytes=by') (hX:∀w':World,w'.heap=w.heap->(rE X).run P w'=.ok n w'/\(rC ie.size n X).run P w'=.ok NEW.toArray w')
  (hnew:concL ι new=some NEW) (hnl:new.length=n*ie.size)
  (h:zGB e ie.size by' bl o sLen (sLen+n) new m f=.ok):Out P ι m w f ((rG ts ty args).run P w):=by
 obtain⟨h1,h2,h3⟩:=zHl h;obtain⟨h4,h5⟩:=zB h1;obtain⟨h6,h7⟩:=zB h5;obtain⟨x,h8,h9⟩:=T.getK_ok (h7:m.t.getK bl _=.ok);split at h9<;>first|(cases h9;done)|skip
 rename_i cs e' z;obtain⟨h10,h11⟩:=zB h9;obtain⟨h12,h13⟩:=zB h11;obtain⟨h14,h15⟩:=zAi h13;obtain⟨h16,h17⟩:=zAT h15;rw[q5] at h17;obtain⟨h18,h19⟩:=zB h17;obtain⟨t1,h20,h21⟩:=T.delK_ok (h19:m.t.delK bl _=.ok);obtain rfl:=rB h10;have hz2:=rA h12;have hmod:o % ie.size=0:=rB h6;simp only[Nat.mul_eq,List.length_drop] at h16;obtain⟨p,hpl,rfl,hcp⟩:=zB4 ha;have hcp:=hcp rfl;simp only[zDH] at hp ⊢;have hblk:=blkOf hr h8 hpl;obtain⟨C,e2,fz,L,k1,k2,k3,k4,k5⟩:=hblk;obtain⟨rfl, -,k7,k8⟩:=k5 (by omega);have k7:=k7 rfl;obtain⟨k9,k10⟩:=k4 rfl;have hsz:p.sz=ie.size:=k9.trans hse;have hLl:=zG k2;have hold:=pC (q8 k2 o) (sLen*ie.size);have hNl:=zG hnew;have hol:((cs.drop o).take (sLen*ie.size)).length=sLen*ie.size:=by simp;omega
 have hodiv:o=o / p.sz*p.sz:=by
  have:=Nat.div_add_mod o p.sz;rw[hsz] at this ⊢;rw[r9];omega
 by_cases hfit:sLen+n<=p.ncap - o / p.sz
 ·
  obtain⟨t',i1,i2⟩:=zCu h20;have hroom:p.delta+o+(sLen*ie.size+n*ie.size)<=C.size:=by
   have h':(o / p.sz+(sLen+n))*p.sz<=p.ncap*p.sz:=rS _ (by omega);rw[r4,r4,<-hodiv,hsz] at h';rw[k7,hsz];omega
  have hfree:∀j,j<C.size->p.delta+o+sLen*ie.size<=j->¬(fz.1<=j/\j<fz.2):=fun j hj hjl=>by
   rcases(show z=0∨z=1∨z=2 by omega) with rfl|rfl|rfl
   ·rw[k8.1 rfl];simp
   ·rcases k8.2.1 rfl with h|h<;>rw[h]<;>simp;omega
   ·have hk:=k8.2.2 rfl
    have he:cs.length - o=sLen*ie.size:=by
     have:zOw 2 (cs.drop o) ((cs.drop o).take (sLen*ie.size))=true:=h18;have:=rB (show Nat.beq (cs.drop o).length ((cs.drop o).take (sLen*ie.size)).length=true from this);simp only[hol,List.length_drop] at this;exact this
    omega
  obtain⟨w',hrun,⟨C',j1,j2,j3⟩,j4,j5,j6,j7,j8⟩:=zAj (P:=P) NEW 0 w C p.blk (p.delta+o+sLen*ie.size) e2 fz k1 (by omega) (fun j hj1 hj=>hfree j (by omega) (by omega)) (qX hnew h4);have hq:=Step.rename (w':=w') (q:=⟨p.blk,p.delta+o,p.ncap - o / p.sz,p.sz⟩) hr h8 (by rcases(show z=0∨z=1∨z=2 by omega) with rfl|rfl|rfl<;>rfl) hpl h21 i1 rfl j5 j4 j6 j7 j8 ?_
  ·refine⟨_,w',_,_,_,zGQ hp (hX w rfl).1 (hX w rfl).2 hfit (by rw[yO];exact hrun),i2,hq,?_⟩
   simp[conc,Inj.set];omega
  ·have hle:ι.le (ι.set m.next ⟨p.blk,p.delta+o,p.ncap - o / p.sz,p.sz⟩):=Inj.le_set (hr.fresh _ (rO _))
   refine⟨C',e2,fz,_,j1,vU hle (yC hold hnew),fun i hi=>?_,fun _=>⟨k9,k10⟩,fun _=>⟨rfl,by simp,fun _=>?_,?_⟩⟩
   ·have hOl:((L.drop o).take (sLen*ie.size)).length=sLen*ie.size:=by simp;omega
    rw[r5,hOl] at hi;simp only[j3];by_cases hi2:i<sLen*ie.size
    ·rw[if_neg (by omega),rZ (by omega),rU,if_pos hi2,rV,rM,k3 (o+i) (by omega)]
    ·rw[if_pos (by omega),rY (by omega),hOl]
     congr 1;omega
   ·show C'.size=p.delta+o+(p.ncap - o / p.sz)*p.sz
    rw[j2,k7,Nat.sub_mul,<-hodiv];have:o / p.sz*p.sz<=p.ncap*p.sz:=rS _ (by omega);omega
   ·refine⟨k8.1,fun h=>by rw[j2];exact k8.2.1 h,fun hz=>?_⟩
    subst hz;have hk:=k8.2.2 rfl;have he:cs.length - o=sLen*ie.size:=by
     have:zOw 2 (cs.drop o) ((cs.drop o).take (sLen*ie.size))=true:=h18;have:=rB (show Nat.beq (cs.drop o).length ((cs.drop o).take (sLen*ie.size)).length=true from this);simp only[hol,List.length_drop] at this;exact this
    show fz.2<=p.delta+o+(((cs.drop o).take (Nat.mul sLen ie.size))++new).length;rw[r5,show((cs.drop o).take (Nat.mul sLen ie.size)).length=sLen*ie.size from hol];omega
 ·have hst:Step P ι m w ι ⟨m.next,t1⟩ w:=Step.forget hr fun b x hx=>(h21 b x hx).2
  exact zFQ hst hp hse hX (fun w' hw'=>zG2 (L:=L) (fun i hi=>by rw[zCB k1];exact k3 i hi) (by omega) hw') (by omega) hold hnew hol hnl h2 (hby▸h3) h20
end
section
variable {P:Program} {ι:Inj} {m:Mem} {w w':World} {A B:Value} {a b:AV} {t:TypeId} {g:G} {ts:Array TypeId} {args:Array Value} {u e ty:TypeId} {ie:TypeInfo} {Z S X:Value}
theorem zC4 {sCap:Nat} {base:Option Addr} {sLen:Nat} (h:App P ts args t u e ie Z (.slice base sLen sCap) X) (hn:(rE X).run P w=.ok 0 w)
  (hx:(rC ie.size 0 X).run P w=.ok #[] w) (hfit:sLen<=sCap):(rG ts ty args).run P w=.ok (.slice base sLen sCap) w:=by
 rcases h.hu with⟨d,hu⟩|hu<;>cases base<;>simp[rG,h.ts0,h.ts1,h.a0,h.a1,rR h.ht,rR hu,sizeOf,typeInfo,h.hi,hn,hx,hfit,Go.storeCells]
theorem zFt (hg:GOk P g) (hr:Rel P ι m w) {f:AV->Mem->R} (ts0:ts[0]? =some t) (ts1:ts[1]? =some u) (hu:(∃d,g.desc u=.slice d)∨g.desc u=.string) (ha:conc ι a=some A) (hb:conc ι b=some B)
  (a0:args[0]? =some A) (a1:args[1]? =some B) (h:zF8 g t a b m f=.ok):Out P ι m w f ((rG ts ty args).run P w):=by
 unfold zF8 at h;split at h<;>first|(cases h;done)|skip
 rename_i e hd;obtain⟨sz,h1,h2⟩:=zF h;obtain⟨ie,h3,h4⟩:=zF h2;obtain⟨h5,h6⟩:=zB h4;obtain⟨z,h7,h8⟩:=zF h6;rw[xR] at h8;obtain⟨h9,h10⟩:=zB h8;obtain⟨i,Z,k1,k2,k3⟩:=G.zero_info hg h7 ι;have hi:=hg.info h3;rw[hi] at k1;injection k1 with k1;subst k1
 obtain⟨i,k4,k5⟩:=hg.size h1;rw[hi] at k4;injection k4 with k4;subst k4
 subst k5;have hs1:=rA h5;have hzl:=rB h9;have hZl:=zG (xO k3);have hse:P.cellsOf e=ie.size:=by simp[Program.cellsOf,hi]
 have hap:App P ts args t u e ie Z A B:=⟨ts0,ts1,a0,a1,hg.desc hd (by simp),hu.elim (fun⟨d,h⟩=>.inl ⟨d,hg.desc h (by simp)⟩) (fun h=>.inr (hg.desc h (by simp))),hi,k2,by simp at hZl;omega,hs1⟩;obtain⟨n,new,NEW,j1,j2,j3,j4⟩:=zCK hr hb h10;rw[zV] at j1;split at j1<;>rename_i hn
 ·have hn:=rB hn
  subst hn;have hN:NEW.toArray= #[]:=by
   have:=zG j2;have:NEW=[]:=List.length_eq_zero_iff.1 (by omega);rw[this]
  have hx:=(j4 w rfl).2;rw[hN] at hx;unfold zQo at j1;split at j1<;>first|(cases j1;done)|skip
  ·rw[yB ha] at hap
   exact yD.out hr (.mk' j1 (by simp[conc]) (zC4 hap (j4 w rfl).1 hx (rO _)))
  ·obtain⟨j5,j6⟩:=zB j1
   have ha':=ha;obtain⟨p,hp,rfl⟩:=xU ha;exact yD.out hr (.mk' j6 ha' (zC4 hap (j4 w rfl).1 hx (rA j5)))
  ·have ha':=ha
   obtain⟨p,hp,rfl,hc⟩:=zB4 ha;have hc:=hc rfl;exact yD.out hr (.mk' j1 ha' (zC4 hap (j4 w rfl).1 hx (by simp only[zDH];omega)))
 ·have hn1:n≠0:=fun e=>hn (by rw[e];rfl)
  unfold zJF at j1;split at j1<;>first|(cases j1;done)|skip
  ·have ha':=ha
   rw[yB ha] at hap ha';exact zDj hr ha' hap hse rfl j4 (by omega) j2 j3 (by simpa using j1)
  ·rename_i bl o len c
   rw[zN,zV] at j1;split at j1<;>rename_i hc
   ·exact zHF hr ha hap j4 (rA hc) j2 j1
   ·have ha':=ha
    obtain⟨p,hp,rfl⟩:=xU ha;refine zDj hr ha' hap hse rfl j4 ?_ j2 j3 j1;simp only[zDH];exact Nat.lt_of_not_le fun h=>hc (Nat.ble_eq_true_of_le h)
  ·rename_i bl o len
   rw[zN] at j1;exact zHG hr ha hap hse rfl j4 j2 j3 j1
end
section
variable {P:Program} {ι:Inj} {m:Mem} {w w':World} {A B:Value} {a b:AV} {t:TypeId} {g:G} {ts:Array TypeId} {args:Array Value} {ty:TypeId}
theorem zGO (Z:Array Value):∀n,(rN Z n).toList=(rJ n Z.toList).flatten:=fun n=>by
 apply List.ext_getElem?;intro i;by_cases hi:i<n*Z.size
 ·have hz:0<Z.size:=by
   rcases Nat.eq_zero_or_pos Z.size with h|h
   ·rw[h,Nat.mul_zero] at hi;omega
   ·exact h
  have h1:(rN Z n).toList[i]? =some Z[i % Z.size]! :=by
   simp[rN,List.getElem?_range hi]
  have h2:∀(k i:Nat),i<k*Z.size->(rJ k Z.toList).flatten[i]? =some Z[i % Z.size]! :=by
   intro k;induction k with
   |zero=>intro i h;omega
   |succ k ih=>
    intro i h;rw[List.replicate_succ,List.flatten_cons];by_cases hlt:i<Z.size
    ·rw[rZ (by simpa using hlt),Nat.mod_eq_of_lt hlt]
     simp[hlt]
    ·rw[rY (by simp;omega)]
     have h3:i - Z.size<k*Z.size:=by rw[r4] at h;omega
     have:=ih (i - Z.size) h3;rw[Nat.mod_eq_sub_mod (by omega:i≥Z.size)]
     simpa using this
  rw[h1,h2 n i hi]
 ·rw[rD (by simp[rN];omega),rD (by simp;omega)]
theorem zMv (hg:GOk P g) (hr:Rel P ι m w) {f:AV->Mem->R} (ts0:ts[0]? =some t) (ha:conc ι a=some A) (a0:args[0]? =some A)
  (h:zKu g t a m f=.ok):Out P ι m w f ((Builtin.clear_ ts ty args).run P w):=by
 unfold zKu at h;split at h<;>first|(cases h;done)|skip
 rename_i e hd;have hu:=hg.run_desc hd (by simp) w;split at h<;>first|(cases h;done)|skip
 ·rename_i bl o n c
  obtain⟨p,hp,rfl⟩:=xU ha;rw[zV] at h;split at h<;>rename_i hn
  ·obtain rfl:n=0:=rB hn
   refine yD.out hr (.mk' h (V:=.tuple #[]) (by simp[conc,concL]) ?_);simp[Builtin.clear_,ts0,a0,hu]
  ·have hn:n≠0:=fun e=>hn (by rw[e];rfl)
   obtain⟨z,h11,h12⟩:=zF h;rw[zAt] at h12;obtain⟨h1,h2⟩:=zB h12;obtain⟨Z,k1,k2⟩:=G.zero_ok hg (ι:=ι) h11 w;have hL:=zBz (xO k2) n;rw[<-zGO] at hL;obtain⟨x,k5,k6⟩:=T.getK_ok (h2:m.t.getK bl _=.ok);split at k6<;>first|(cases k6;done)|skip
   rename_i c' e' gr z';obtain⟨k7,k8⟩:=zB k6;obtain⟨k9,k10⟩:=zAD k8;obtain⟨w',m',i1,i2,i3⟩:=Step.store hr k5 k7 hp hL (qX hL h1) k9 (zAI k9) (p5 k9) k10;refine⟨.tuple #[],w',ι,_,m',?_,i2,i3,by simp[conc,concL]⟩;simp[Builtin.clear_,ts0,a0,hu,hn,k1,i1]
end
section
variable {P:Program} {ι:Inj} {m:Mem} {w w':World} {A B:Value} {a b:AV} {t:TypeId} {g:G} {ts:Array TypeId} {args:Array Value} {ty:TypeId}
theorem xN {r:Nat} {E:Array MapEntry} {c:Nat} (h:w.heap[r]? =some (.map E c)):(getObj r).run P w=.ok (.map E c) w:=by simp[getObj,Sem.run,h]
theorem zLE (hg:GOk P g) {xt:TypeId} {ok:Bool} {f:AV->R} (ha:conc ι a=some A) (h:zIW g a t ok f=.ok):yD P ι w f ((rK A xt t ok).run P w):=by
 have main:∀d,g.desc t=d->d≠.invalid->(∀ms,d≠.interface ms)->(a=.nili/\ifB 0 ok (zP 0 (g.zero t) fun z=>f (.tup [z,.bool false]))=.ok∨
   ∃u v,a=.ifc u v/\iteB (Nat.beq u t) (iteB ok (f (.tup [v,.bool true])) (f v)) (ifB 0 ok (zP 0 (g.zero t) fun z=>f (.tup [z,.bool false])))=.ok)->yD P ι w f ((rK A xt t ok).run P w):=fun d hd hi hn hc=>by
  have hu:=hg.run_desc hd hi w;have fails:∀(X:Value) (h0:ifB 0 ok (zP 0 (g.zero t) fun z=>f (.tup [z,.bool false]))=.ok) (_:∀Z,(zeroValue t).run P w=.ok Z w->(rK X xt t true).run P w=.ok (.tuple #[Z,.bool false]) w),yD P ι w f ((rK X xt t ok).run P w):=fun X h0 hX=>by
   obtain⟨h1,h2⟩:=zB h0;obtain⟨z,h3,h4⟩:=zF h2;obtain⟨Z,k1,k2⟩:=G.zero_ok hg (ι:=ι) h3 w;subst h1;exact .mk' h4 (by simp[conc,concL,k2]) (hX Z k1)
  rcases hc with⟨rfl,h0⟩|⟨u,v,rfl,h0⟩
  ·have e:A=.nilIface:=by simp[conc] at ha;exact ha.symm
   subst e;refine fails _ h0 fun Z hZ=>?_
   simp only[rK,rI,hu,rF];cases d<;>first|(exact absurd rfl (hn _))|simp[hZ]
  ·obtain⟨V,hV,rfl⟩:∃V,conc ι v=some V/\A=.iface u V:=by
    simp only[conc,rQ] at ha;obtain⟨V,h1,h2⟩:=ha;exact⟨V,h1,h2.symm⟩
   rw[zV] at h0;split at h0<;>rename_i hut
   ·have hut:=rB hut
    subst hut;have hrun:(rK (.iface u V) xt u ok).run P w=.ok (if ok then .tuple #[V,.bool true] else V) w:=by
     simp only[rK,rI,hu,rF];cases d<;>first|(exact absurd rfl (hn _))|simp
    rw[hrun];cases ok with
    |true=>exact .mk' (h0:f (.tup [v,.bool true])=.ok) (by simp[conc,concL,hV]) rfl
    |false=>exact .mk' (h0:f v=.ok) hV rfl
   ·have hut:u≠t:=fun e=>hut (by simp[e])
    refine fails _ h0 fun Z hZ=>?_
    simp only[rK,rI,hu,rF];cases d<;>first|(exact absurd rfl (hn _))|simp[hZ,hut]
 unfold zIW at h;split at h<;>first|(cases h;done)|skip
 ·rename_i n1 n2;exact main _ rfl (fun e=>n2 e) (fun ms e=>n1 ms e) (.inl ⟨rfl,h⟩)
 ·rename_i n1 n2;exact main _ rfl (fun e=>n2 e) (fun ms e=>n1 ms e) (.inr ⟨_,_,rfl,h⟩)
theorem zHu (hr:Rel P ι m w) {f:AV->Mem->R} (h:zA8 m (.map [] 0) (fun b m=>f (.mp b) m)=.ok):
  Out P ι m w f ((do pure (.map (some (<- newObj (.map #[] 0)))):Sem Value).run P w):=by
 obtain⟨t',h1,h2⟩:=zCu h;refine⟨.map (some w.heap.size),{w with heap:=w.heap.push (.map #[] 0)},ι.set m.next ⟨w.heap.size,0,0,0⟩,_,_,by simp[newObj];rfl,h2,Step.new hr h1 (p:=⟨w.heap.size,0,0,0⟩) rfl rfl rfl rfl rfl ?_,by simp[conc,Inj.set]⟩;exact⟨#[],by simp,trivial,rfl⟩
theorem zMt (hg:GOk P g) (hr:Rel P ι m w) {f:AV->Mem->R} (hm:zHv g t=true) (ha:conc ι a=some A) (h:zL4 a m f=.ok):Out P ι m w f ((Instr.range t A).run P w):=by
 obtain⟨k,e,hd⟩:=zG5 hm;have hu:=hg.run_desc hd (by simp) w;have fin:∀ {mb:Option Nat} {m':Option Nat} {c:Nat} (_:match mb with|none=>m'=none|some b=>∃q,ι b=some q/\m'=some q.blk)
   (_:zA8 m (.iter mb c [] c) (fun b m=>f (.ptr b 0) m)=.ok) (_:(Instr.range t A).run P w=.ok (.pointer (some ⟨w.heap.size,0,none⟩)) {w with heap:=w.heap.push (.mapIter m' c #[] c)}),
   Out P ι m w f ((Instr.range t A).run P w):=fun {mb m' c} h1 h2 h3=>by
  obtain⟨t',i1,i2⟩:=zCu h2;refine⟨_,_,ι.set m.next ⟨w.heap.size,0,0,0⟩,_,_,h3,i2,Step.new hr i1 (p:=⟨w.heap.size,0,0,0⟩) rfl rfl rfl rfl rfl ?_,by simp[conc,Inj.set]⟩;refine⟨rfl,m',by simp,?_⟩;cases mb with
  |none=>exact h1
  |some b=>obtain⟨q,q1,q2⟩:=h1;exact⟨q,Inj.le_set (hr.fresh _ (rO _)) _ _ q1,q2⟩
 unfold zL4 at h;split at h<;>first|(cases h;done)|skip
 ·rw[vA ha] at fin ⊢
  exact fin (mb:=none) rfl h (by simp[Instr.range,hu,newObj];rfl)
 ·rename_i b
  obtain⟨x,h1,h2⟩:=T.getK_ok (h:m.t.getK b _=.ok);split at h2<;>first|(cases h2;done)|skip
  rename_i es c;obtain⟨p,hp,rfl⟩:∃p,ι b=some p/\A=.map (some p.blk):=by
   simp only[conc,rQ] at ha;obtain⟨p,q1,q2⟩:=ha;exact⟨p,q1,q2.symm⟩
  obtain⟨E,k1,k2,k3⟩:=blkOf hr h1 hp;exact fin (mb:=some b) ⟨p,hp,rfl⟩ h2 (by simp[Instr.range,hu,newObj,xN k1];rfl)
end
section
variable {P:Program} {ι:Inj} {m:Mem} {w w':World} {A B:Value} {a b:AV} {t:TypeId} {g:G}
theorem zEm:∀ {cs:List AV} {CS:List Value} {f:List UInt8->R},concL ι cs=some CS->zId cs f=.ok->∃ns:List Int,CS=ns.map (Value.int .u8)/\f (ns.map fun n=>UInt8.ofNat n.toNat)=.ok
 |[],CS,f,hc,h=>by
  simp[concL] at hc;exact⟨[],by simp[hc],h⟩
 |c::cs,CS,f,hc,h=>by
  simp only[concL,r1,rQ] at hc;obtain⟨C,h1,L,h2,rfl⟩:=hc;cases c<;>first|(exact absurd (show R.bad 0=R.ok from h) (by simp))|skip
  rename_i k n;cases k<;>first|(exact absurd (show R.bad 0=R.ok from h) (by simp))|skip
  cases n with
  |negSucc n=>exact absurd (show R.bad 0=R.ok from h) (by simp)
  |ofNat n=>
   obtain⟨ns,h3,h4⟩:=zEm h2 (show zId cs (fun l=>f (UInt8.ofNat n::l))=.ok from h);simp[conc] at h1;exact⟨(n:Int)::ns,by simp[h3,<-h1],by simpa using h4⟩
theorem zF9 (h:zKh g t=true):g.desc t=.int .u8:=by
 unfold zKh at h;split at h
 ·assumption
 ·cases h
theorem zDD (hg:GOk P g) (hr:Rel P ι m w) {src dst:TypeId} {f:AV->R} (hd:g.desc dst=.string) (ha:conc ι a=some A) (hn:∀s,a≠.str s) (h:zBq g src a m f=.ok):
  yD P ι w f ((convert src dst A).run P w):=by
 unfold zBq at h;split at h<;>first|(cases h;done)|skip
 rename_i e hs;obtain⟨h1,h2⟩:=zB h;obtain⟨n,cs,CS,h3,h4,h5,h6⟩:=zCK hr ha h2;obtain⟨ns,h7,h8⟩:=zEm h4 h3;obtain⟨h9,h10⟩:=h6 w rfl;have hsu:=hg.desc hs (by simp);have hdu:=hg.desc hd (by simp);have heu:=hg.desc (zF9 h1) (by simp);have hlen:ns.length=n:=by
  have:=zG h4;rw[h7] at this;simp at this;omega
 refine .mk' h8 (V:=.string ⟨(ns.map fun n=>UInt8.ofNat n.toNat).toArray⟩) (by simp[conc]) ?_;cases a<;>first|(simp[zAN] at h2;done)|skip
 case str s=>exact absurd rfl (hn s)
 case nils=>
  rw[yB ha] at h9 h10 ⊢;rw[run_convert_bytes_string w src dst e none 0 0 hsu heu hdu];have:n=0:=by simp[rE] at h9;omega
  have:ns=[]:=List.length_eq_zero_iff.1 (by omega);subst this;rfl
 case sl b o l c=>
  obtain⟨p,hp,rfl⟩:=xU ha;have hl:l=n:=by simpa[rE] using h9
  subst hl;rw[run_convert_bytes_string w src dst e _ l _ hsu heu hdu];rw[run_bytesToString w _ l _ ns (by simpa[rC,h7] using h10),foldl_push_bytes];have he0:ByteArray.empty.data= #[]:=rfl;rw[he0];simp
 case dead=>
  obtain⟨b,d,cp,rfl⟩:=vG ha;have hl:n=0:=by simpa[rE] using h9.symm
  subst hl;rw[run_convert_bytes_string w src dst e _ 0 _ hsu heu hdu];rw[run_bytesToString w _ 0 _ ns (by simpa[rC,h7] using h10),foldl_push_bytes];have he0:ByteArray.empty.data= #[]:=rfl;rw[he0];simp
theorem zO3 (hg:GOk P g) (hr:Rel P ι m w) {src dst:TypeId} {f:AV->Mem->R} (ha:conc ι a=some A) (h:zFw g src dst a m f=.ok):
  Out P ι m w f ((convert src dst A).run P w):=by
 obtain⟨h0,h1⟩:=zB h;have hs:g.desc src≠.invalid:=by
  unfold known at h0;split at h0
  ·cases h0
  ·assumption
 have hsu:=hg.run_desc rfl hs w;split at h1<;>first|(cases h1;done)|skip
 ·rename_i k j n hd
  have hdu:=hg.run_desc hd (by simp) w;rw[z7 ha];refine yD.out hr (.mkInt (zBC h1) (n':=k.wrap n) ?_ rfl);simp[convert,hsu,hdu,Conv.intToInt]
 ·rename_i hd
  exact yD.out hr (zDD hg hr hd ha (by simp) h1)
end
