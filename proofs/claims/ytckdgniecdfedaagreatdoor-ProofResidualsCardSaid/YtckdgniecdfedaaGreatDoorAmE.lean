/- Code and calls of the plain machine answer as the model. -/
import Derived.Test.YtckdgniecdfedaaGreatDoorAmD
import Derived.LoopNIn
import Derived.OrdersIn
import Derived.Lib.Bytealg
import Derived.RangeFuncRecord
section
namespace Go.AM
theorem Fr.setK_eq {fr:Fr} {d:Nat} {v:AV} {f:Fr→R} (h:fr.setK d v f=.ok):d<fr.n∧f ⟨.cons d v fr.log,fr.t,fr.n,fr.ng⟩=.ok:=by
 obtain⟨log,t,n,ng⟩:=fr
 obtain⟨h1,h2⟩:=ifB_ok h
 exact⟨Nat.le_of_ble_eq_true h1,h2⟩
theorem FrRel.set {P:Program} {ι:Inj} {fr:Fr} {mask:Nat} {tmps:Array Value} (hf:FrRel P ι fr mask tmps) {d:Nat} {v:AV} {V:Value} (hd:d<fr.n) (hv:conc ι v=some V):
  FrRel P ι ⟨.cons d v fr.log,fr.t,fr.n,fr.ng⟩ mask (tmps.setIfInBounds d V):=by
 refine⟨by simpa using hf.size,hf.ng,fun k x hx=>hf.masked k x hx,fun k x hx=>?_⟩
 simp only[Fr.find,Log.find] at hx
 by_cases e:d=k
 ·subst e
  rw[if_pos rfl] at hx
  simp at hx
  subst hx
  exact⟨V,hv,by simp[hf.size,hd]⟩
 ·rw[if_neg e] at hx
  obtain⟨W,h1,h2⟩:=hf.val k x hx
  exact⟨W,h1,by rw[Array.getElem?_setIfInBounds_ne e];exact h2⟩
theorem FrRel.put {P:Program} {ι:Inj} {fr:Fr} {mask:Nat} {a:Act} (hf:FrRel P ι fr mask a.tmps) {dst:Option Tmp} {v:AV} {V:Value} {f:Fr→R} (hv:conc ι v=some V) (h:putFr fr dst v f=.ok):
  ∃fr',f fr'=.ok∧FrRel P ι fr' mask (a.put dst V).tmps:=by
 cases dst with
 |none=>exact⟨fr,h,hf⟩
 |some d=>
  obtain⟨h1,h2⟩:=Fr.setK_eq (h:fr.setK d v f=.ok)
  exact⟨_,h2,hf.set h1 hv⟩
theorem FrRel.less {P:Program} {ι:Inj} {fr fr':Fr} {mask:Nat} {tmps:Array Value} (hf:FrRel P ι fr mask tmps) (hl:fr'.less fr) (hm:fr'.masked mask):FrRel P ι fr' mask tmps:=
 ⟨by rw[hl.n];exact hf.size,by rw[hl.ng];exact hf.ng,hm,fun k x hx=>hf.val k x (hl.find k x hx)⟩
theorem put_defers (a:Act) (dst:Option Tmp) (V:Value):(a.put dst V).defers=a.defers:=by cases dst<;>rfl
def DefOk (N:Nat) (ι:Inj) (m:Mem) (w:World):List Deferred→Prop
 |[]=>True
 |d::ds=>(∃r,d= {target:=.collected r,args:= #[]}∧N≤r∧w.heap[r]? =some (.deferred (some []))∧¬occ ι m r∧∀d'∈ds,d'.target≠.collected r)∧DefOk N ι m w ds
theorem wr_occ {ι:Inj} {m:Mem} {k:Nat} (h:wr ι m k):occ ι m k:=let⟨b,x,p,h1,_,h2,h3⟩:=h;⟨b,x,p,h1,h2,h3⟩
theorem heap_lt {w:World} {r:Nat} {o:Obj} (h:w.heap[r]? =some o):r<w.heap.size:=by
 rcases Nat.lt_or_ge r w.heap.size with h'|h'
 ·exact h'
 ·rw[Array.getElem?_eq_none h'] at h;cases h
theorem DefOk.step {P:Program} {N:Nat} {ι ι':Inj} {m m':Mem} {w w':World} (hs:Step P ι m w ι' m' w'):∀ {ds:List Deferred},DefOk N ι m w ds→DefOk N ι' m' w' ds
 |[],_=>trivial
 |_::_,⟨⟨r,h1,h2,h3,h4,h5⟩,h6⟩=>⟨⟨r,h1,h2,by rw[hs.old r (heap_lt h3) fun hw=>h4 (wr_occ hw)];exact h3,fun ho=>h4 (hs.occs r (heap_lt h3) ho),h5⟩,h6.step hs⟩
structure St (P:Program) (mask:Nat) (ι0:Inj) (m0:Mem) (w0:World) (ι:Inj) (fr:Fr) (m:Mem) (a:Act) (w:World):Prop where
 step:Step P ι0 m0 w0 ι m w
 fr:FrRel P ι fr mask a.tmps
 defs:DefOk w0.heap.size ι m w a.defers
def boolOf (V:Value):Option Bool:=match V with| .bool b=>some b|_=>none
def AV.boolOf (c:AV):Option Bool:=match c with| .bool b=>some b|_=>none
theorem boolOf_conc {ι:Inj} {c:AV} {V:Value} (h:conc ι c=some V):Go.AM.boolOf V=c.boolOf:=by
 cases c
 case bool=>rw[conc_bool h];rfl
 case int=>rw[conc_int h];rfl
 case str=>rw[conc_str h];rfl
 case ptr=>obtain⟨_,_,rfl⟩:=conc_ptr h;rfl
 case nilp=>rw[conc_nilp h];rfl
 case sl=>obtain⟨_,_,rfl⟩:=conc_sl h;rfl
 case nils=>rw[conc_nils h];rfl
 case mp=>obtain⟨_,_,rfl⟩:=conc_mp h;rfl
 case nilm=>rw[conc_nilm h];rfl
 case fn=>obtain⟨_,_,_,_,_,_,rfl⟩:=conc_fn h;rfl
 case nilf=>rw[conc_nilf h];rfl
 case ifc=>obtain⟨_,_,rfl⟩:=conc_ifc h;rfl
 case nili=>rw[conc_nili h];rfl
 case agg=>obtain⟨_,_,rfl⟩:=conc_agg h;rfl
 case tup=>obtain⟨_,_,rfl⟩:=conc_tup h;rfl
 case dead=>obtain⟨_,_,_,rfl⟩:=conc_dead' h;rfl
theorem yielded_of {ops:Array Oper} {tmps:Array Value} {j d:Nat} {V:Value} (hd:guardSlot ops j=some d) (ht:tmps[d]? =some V):yielded ops tmps j=Go.AM.boolOf V:=by
 unfold yielded
 unfold guardSlot at hd
 rw[hd]
 simp only[Option.bind_some,ht]
 cases V<;>rfl
theorem uponIn_mono {F:Fence} {n:Nat} {P:Program} {o:Oper} {a:Act} {Q:Exit→Act→World→Prop} {K K':Act→World→Prop} (h:∀a w,K a w→K' a w) {r:Result Next} (hh:o.uponIn F n P a K Q r):o.uponIn F n P a K' Q r:=by
 cases r with
 |ok x w'=>
  cases x<;>simp only[Oper.uponIn] at hh ⊢ <;>
   first
    |exact h _ _ hh
    |exact⟨hh.1,CallsIn.mono hh.2 (fun e w'' he=>by cases e<;>first|exact h _ _ he|exact he)⟩
    |exact⟨hh.1,RowsIn.mono hh.2 (fun _ _ he=>h _ _ he)⟩
    |exact⟨hh.1,RoundIn.mono hh.2 (fun e w'' he=>by cases e<;>first|exact h _ _ he|exact he)⟩
 |halt x w'=>cases x<;>simp only[Oper.uponIn] at hh ⊢ <;>exact hh
section
variable {P:Program} {F:Fence} {n:Nat} {Q:Exit→Act→World→Prop} {g:G} {call:CallF} {mask:Nat} {ι0:Inj} {m0:Mem} {w0:World}
theorem isWanted_ok {ι:Inj} {want:Bool} {c:AV} {V:Value} (h:conc ι c=some V) {ops:Array Oper} {tmps:Array Value} {j d:Nat} (hd:guardSlot ops j=some d) (ht:tmps[d]? =some V):
  (yielded ops tmps j==some want)=isWanted want c:=by
 rw[yielded_of hd ht,boolOf_conc h]
 cases c
 case bool b=>cases b<;>cases want<;>rfl
 all_goals rfl
theorem operK_ok (hg:GOk P g) (hflat:∀t,g.isFlat t=true→Flat P t) (hc:CallOk P call) (hF:Wide F) {ops:Array Oper} {i:Nat} {o:Oper} (hi:ops[i]? =some o) {ι:Inj} {fr:Fr} {m:Mem} {a:Act} {w:World} {f:Fr→Mem→R}
  (hs:St P mask ι0 m0 w0 ι fr m a w) (h:operK g call ops o fr m f=.ok):wpOpIn F n P ops Q i (fun a' w'=>∃ι' fr' m',f fr' m'=.ok∧St P mask ι0 m0 w0 ι' fr' m' a' w') a w:=by
 have hab:∀fid,o.about P w a.eval=some fid→F.fn fid:=fun _ _=>hF.fn _
 have run:opK o.op g call fr m (fun v m=>putFr fr o.dst v fun fr=>f fr m)=.ok→o.wpIn F n P a w (fun a' w'=>∃ι' fr' m',f fr' m'=.ok∧St P mask ι0 m0 w0 ι' fr' m' a' w') Q:=fun h0=>by
  have hsem:o.semAt F.round a.eval=execOp a.eval o:=Oper.semAt_eq _ _ _ fun c hd=>by rw[hd] at h0;cases h0
  refine⟨hab,?_⟩
  rw[hsem]
  have key:=opK_ok (n:=n) (Q:=Q) hg hflat hc hF hs.step.rel hs.fr h0
  refine uponIn_mono (fun a' w' ⟨V,v,ι',m',e,h1,h2,h3⟩=>?_) key
  subst e
  obtain⟨fr',h4,h5⟩:=FrRel.put (hs.fr.mono h2.le) h3 h1
  exact⟨ι',fr',m',h4,hs.step.trans h2,h5,by rw[put_defers];exact hs.defs.step h2⟩
 have skip:putFr fr o.dst .undef (fun fr=>f fr m)=.ok→∃ι' fr' m',f fr' m'=.ok∧St P mask ι0 m0 w0 ι' fr' m' (a.put o.dst undef) w:=fun h0=>by
  obtain⟨fr',h4,h5⟩:=FrRel.put hs.fr (V:=undef) (by simp[AV.undef,conc,concL,undef]) h0
  exact⟨ι,fr',m,h4,hs.step,h5,by rw[put_defers];exact hs.defs⟩
 unfold wpOpIn
 rw[hi]
 cases hgd:o.guard with
 |none=>
  have hw:Region.wanted o (yielded ops a.tmps)=true:=by simp[Region.wanted,hgd]
  simp only[hw,if_true]
  unfold operK at h
  rw[hgd] at h
  exact run h
 |some jw=>
  obtain⟨j,want⟩:=jw
  unfold operK at h
  rw[hgd] at h
  obtain⟨d,h1,h2⟩:=optK_ok (h:optK 0 (guardSlot ops j) _=.ok)
  obtain⟨c,h3,h4⟩:=Fr.getK_ok h2
  obtain⟨V,h5,h6⟩:=hs.fr.val d c h3
  have hw:Region.wanted o (yielded ops a.tmps)=isWanted want c:=by
   simp only[Region.wanted,hgd]
   exact isWanted_ok h5 h1 h6
  rw[iteB_eq] at h4
  simp only[hw]
  split at h4<;>rename_i hcw
  ·rw[if_pos hcw];exact run h4
  ·rw[if_neg hcw]
   exact⟨hab,skip h4⟩
theorem opsK_ok (hg:GOk P g) (hflat:∀t,g.isFlat t=true→Flat P t) (hc:CallOk P call) (hF:Wide F) {ops:Array Oper}:∀(l:List Oper) (i:Nat) {ι:Inj} {fr:Fr} {m:Mem} {a:Act} {w:World} {f:Fr→Mem→R} {K:Act→World→Prop},
  (∀j,l[j]? =ops[i+j]?)→(∀a w ι fr m,f fr m=.ok→St P mask ι0 m0 w0 ι fr m a w→K a w)→St P mask ι0 m0 w0 ι fr m a w→opsK g call ops l fr m f=.ok→
  ∀ {rest:List Nat},(∀a w,K a w→wpOpsIn F n P ops Q rest a w)→wpOpsIn F n P ops Q (List.range' i l.length++rest) a w
 |[],i,ι,fr,m,a,w,f,K,_,hK,hs,h,rest,hrest=>by simpa using hrest _ _ (hK a w ι fr m h hs)
 |o::l,i,ι,fr,m,a,w,f,K,hl,hK,hs,h,rest,hrest=>by
  have h0:ops[i]? =some o:=by simpa using(hl 0).symm
  have h':operK g call ops o fr m (fun fr m=>opsK g call ops l fr m f)=.ok:=h
  simp only[List.length_cons,List.range'_succ,List.cons_append]
  rw[wpOpsIn_cons]
  refine wpOpIn_mono (fun a' w' ⟨ι',fr',m',h1,h2⟩=>?_) (operK_ok (Q:=Q) hg hflat hc hF h0 hs h')
  exact opsK_ok hg hflat hc hF l (i+1) (fun j=>by have:=hl (j+1);simpa[Nat.add_assoc,Nat.add_comm 1 j] using this) hK h2 h1 hrest
theorem region_ok (hg:GOk P g) (hflat:∀t,g.isFlat t=true→Flat P t) (hc:CallOk P call) (hF:Wide F) {id:Nat} {ops:Array Oper} {ι:Inj} {fr:Fr} {m:Mem} {a:Act} {w:World} {f:Fr→Mem→R}
  (hK:∀a w ι fr m,f fr m=.ok→St P mask ι0 m0 w0 ι fr m a w→Q .normal a w) (hs:St P mask ι0 m0 w0 ι fr m a w) (h:opsK g call ops ops.toList fr m f=.ok):(Code.region id ops false).wpIn F n P Q a w:=by
 refine wpIn_region ?_
 have:=opsK_ok (n:=n) (Q:=Q) hg hflat hc hF (K:=fun a w=>Q .normal a w) ops.toList 0 (fun j=>by simp) hK hs h (rest:=[]) fun a w h=>h
 simpa[List.range_eq_range'] using this
theorem wpIn_scope {c:Code} {a:Act} {w:World} (h:c.wpIn F n P (fun e a w=>match e with| .goto _=>False|e=>Q e a w) a w):(Code.scope c).wpIn F n P Q a w:=by
 intro b k cs hro hb hr
 have h0:(lone (b.atR a (.code (.scope c)::k)) cs w).fenced P F:=fenced_calm hb hr rfl
 have s0:step P (lone (b.atR a (.code (.scope c)::k)) cs w)=.next (lone (b.atR a (.code c::.inScope c::k)) cs w):=step_lone_go (by simp[stepG,stepG.exec,Frame.atR])
 have s1:∀a w,step P (lone (b.atR a (.inScope c::k)) cs w)=.next (lone (b.atR a k) cs w):=fun a w=>step_lone_go (by simp[stepG,stepG.exec,Frame.atR])
 obtain⟨e,a₁,w₁,hq,harr⟩:=h b (.inScope c::k) cs hro hb hr
 cases e with
 |normal=>exact⟨.normal,a₁,w₁,hq,.head h0 s0 (StepsIn.trans harr (.one (fenced_calm (fr:=b.atR a₁ (.inScope c::k)) hb hr rfl) (s1 a₁ w₁)))⟩
 |exit id=>exact⟨.exit id,a₁,w₁,hq,fun k' hk=>.head h0 s0 (harr.1 k' (by simp[exitTo,hk])),fun hn hk=>by
   obtain⟨k2,h2,h3⟩:=harr.2 hn (by simp[exitTo,hk])
   exact⟨k2,h2,.head h0 s0 h3⟩⟩
 |goto l=>exact hq.elim
 |ret=>exact⟨_,a₁,w₁,hq,.of_steps (.one h0 s0) harr⟩
 |panic ch=>exact⟨_,a₁,w₁,hq,.of_steps (.one h0 s0) harr⟩
 |outgrown=>exact⟨_,a₁,w₁,hq,.of_steps (b:=b) (k:=k) (cs:=cs) (e:=.outgrown) (.one h0 s0) harr⟩
def exitIs:Exit→X→Prop
 | .normal,.n=>True
 | .exit id,.x j=>id=j
 | .ret,.r=>True
 |_,_=>False
def Post (P:Program) (mask:Nat) (ι0:Inj) (m0:Mem) (w0:World) (k:KX) (e:Exit) (a:Act) (w:World):Prop:=∃x ι fr m,exitIs e x∧k x fr m=.ok∧St P mask ι0 m0 w0 ι fr m a w
def RangeOk (P:Program) (F:Fence) (mask:Nat) (me:FuncId) (range:RangeF):Prop:=
 ∀(n:Nat) (Q:Exit→Act→World→Prop) (ι0:Inj) (m0:Mem) (w0:World) (x:Operand) (ps:Array Tmp) (asg body:Code) (ι:Inj) (fr:Fr) (m:Mem) (a:Act) (w:World) (v:AV) (κ:Option Code→Mem→R),
  St P mask ι0 m0 w0 ι fr m a w→DrawsIn P me asg→DrawsIn P me body→conc ι v=some (a.eval x)→range v m fr ps asg body κ=.ok→
  (∀j m' ι' a' w',κ j m'=.ok→St P mask ι0 m0 w0 ι' fr m' a' w'→match j with|none=>Q .normal a' w'|some c=>c.wpIn F n P Q a' w')→(Code.rangeFunc x ps asg body).wpIn F n P Q a w
def DrawOk (P:Program) (F:Fence) (mask:Nat) (me:FuncId) (draw:DrawF):Prop:=
 ∀(n:Nat) (Q:Exit→Act→World→Prop) (ι0:Inj) (m0:Mem) (w0:World) (id:Nat) (ops:Array Oper) (ι:Inj) (fr:Fr) (m:Mem) (a:Act) (w:World) (f:Fr→Mem→R),
  St P mask ι0 m0 w0 ι fr m a w→DrawsIn P me (.region id ops true)→draw id ops fr m f=.ok→(∀a w ι fr m,f fr m=.ok→St P mask ι0 m0 w0 ι fr m a w→Q .normal a w)→(Code.region id ops true).wpIn F n P Q a w
structure AxOk (P:Program) (F:Fence) (me:FuncId) (ax:Ax):Prop where
 g:GOk P ax.g
 flat:∀t,ax.g.isFlat t=true→Flat P t
 call:CallOk P ax.call
 wide:Wide F
 range:RangeOk P F ax.mask me ax.range
 draw:DrawOk P F ax.mask me ax.draw
theorem loop_ok {c:Code} {ax:Ax} (ih:∀ {ι:Inj} {fr:Fr} {m:Mem} {a:Act} {w:World} {k:KX} {Q:Exit→Act→World→Prop},St P ax.mask ι0 m0 w0 ι fr m a w→exK c ax fr m k=.ok→
   (∀e a w,Post P ax.mask ι0 m0 w0 k e a w→Q e a w)→c.wpIn F n P Q a w):∀(fuel:Nat) {ι:Inj} {fr:Fr} {m:Mem} {a:Act} {w:World} {k:KX} {Q:Exit→Act→World→Prop},St P ax.mask ι0 m0 w0 ι fr m a w→
  loopK (fun ax fr m k=>exK c ax fr m k) fuel ax fr m k=.ok→(∀e a w,Post P ax.mask ι0 m0 w0 k e a w→Q e a w)→Code.roundsIn F n P c Q fuel a w
 |0,ι,fr,m,a,w,k,Q,hs,h,hQ=>by cases h
 |fuel+1,ι,fr,m,a,w,k,Q,hs,h,hQ=>by
  rw[roundsIn_succ]
  have h':exK c ax fr m (fun e fr m=>loopX e (loopK (fun ax fr m k=>exK c ax fr m k) fuel) ax fr m k)=.ok:=h
  refine ih hs h' fun e a w ⟨x,ι',fr',m',hx,hk,hs'⟩=>?_
  cases e<;>cases x<;>simp only[exitIs] at hx<;>try exact hx.elim
  ·exact loop_ok ih fuel hs' hk hQ
  ·exact hQ _ _ _ ⟨.x _,ι',fr',m',hx,hk,hs'⟩
  ·exact hQ _ _ _ ⟨.r,ι',fr',m',trivial,hk,hs'⟩
theorem exK_ok:∀(c:Code) {me:FuncId} {ax:Ax} (_:AxOk P F me ax) (_:DrawsIn P me c) {ι:Inj} {fr:Fr} {m:Mem} {a:Act} {w:World} {k:KX} {Q:Exit→Act→World→Prop},St P ax.mask ι0 m0 w0 ι fr m a w→exK c ax fr m k=.ok→
  (∀e a w,Post P ax.mask ι0 m0 w0 k e a w→Q e a w)→c.wpIn F n P Q a w
 | .skip,me,ax,hax,hD,ι,fr,m,a,w,k,Q,hs,h,hQ=>wpIn_skip (hQ _ _ _ ⟨.n,ι,fr,m,trivial,h,hs⟩)
 | .region id ops d,me,ax,hax,hD,ι,fr,m,a,w,k,Q,hs,h,hQ=>by
  have fin:∀(a:Act) (w:World) (ι:Inj) (fr:Fr) (m:Mem),fr.flushK ax.mask (fun fr=>k .n fr m)=.ok→St P ax.mask ι0 m0 w0 ι fr m a w→Q .normal a w:=fun a w ι fr m h hs=>by
   obtain⟨fr',h1,h2,h3⟩:=Fr.flushK_ok hs.fr.masked h
   exact hQ _ _ _ ⟨.n,ι,fr',m,trivial,h1,hs.step,hs.fr.less h2 h3,hs.defs⟩
  cases d with
  |false=>exact region_ok hax.g hax.flat hax.call hax.wide fin hs (h:opsK ax.g ax.call ops ops.toList fr m _=.ok)
  |true=>exact hax.draw n Q ι0 m0 w0 id ops ι fr m a w _ hs hD (h:ax.draw id ops fr m _=.ok) fin
 | .seq x y,me,ax,hax,hD,ι,fr,m,a,w,k,Q,hs,h,hQ=>by
  have h':exK x ax fr m (fun e fr m=>seqX e fr m (fun a fr m k=>exK y a fr m k) ax k)=.ok:=h
  refine wpIn_seq (exK_ok x hax (DrawsIn.left hD rfl).1 hs h' fun e a w ⟨x',ι',fr',m',hx,hk,hs'⟩=>?_)
  cases e<;>cases x'<;>simp only[exitIs] at hx<;>try exact hx.elim
  ·exact exK_ok y hax (DrawsIn.left hD rfl).2 hs' hk hQ
  ·exact hQ _ _ _ ⟨.x _,ι',fr',m',hx,hk,hs'⟩
  ·exact hQ _ _ _ ⟨.r,ι',fr',m',trivial,hk,hs'⟩
 | .cond x y z,me,ax,hax,hD,ι,fr,m,a,w,k,Q,hs,h,hQ=>by
  obtain⟨v,h1,h2⟩:=ev_ok hs.step.rel hs.fr (h:ev x fr (fun v=>asBoolK v fun b=>Bool.rec (motive:=fun _=>R) (exK z ax fr m k) (exK y ax fr m k) b)=.ok)
  obtain⟨b,rfl,h3⟩:=asBoolK_ok h1
  refine wpIn_cond (t:=b) (conc_bool h2) ?_
  cases b with
  |true=>exact exK_ok y hax (DrawsIn.left hD rfl).1 hs h3 hQ
  |false=>exact exK_ok z hax (DrawsIn.left hD rfl).2 hs h3 hQ
 | .block id c,me,ax,hax,hD,ι,fr,m,a,w,k,Q,hs,h,hQ=>by
  have h':exK c ax fr m (fun e fr m=>blockX e id fr m k)=.ok:=h
  refine wpIn_block (exK_ok c hax hD hs h' fun e a w ⟨x',ι',fr',m',hx,hk,hs'⟩=>?_)
  cases e<;>cases x'<;>simp only[exitIs] at hx<;>try exact hx.elim
  ·exact hQ _ _ _ ⟨.n,ι',fr',m',trivial,hk,hs'⟩
  ·rename_i j j' _hp
   subst hx
   have hk':iteB (Nat.beq j id) (k .n fr' m') (k (.x j) fr' m')=.ok:=hk
   rw[iteB_eq] at hk'
   simp only[Exit.inBlock]
   by_cases e:j=id
   ·rw[if_pos (by simp[e])] at hk'
    rw[if_pos e]
    exact hQ _ _ _ ⟨.n,ι',fr',m',trivial,hk',hs'⟩
   ·have hb:Nat.beq j id=false:=by cases h:Nat.beq j id with|false=>rfl|true=>exact absurd (Nat.eq_of_beq_eq_true h) e
    rw[hb] at hk'
    rw[if_neg e]
    exact hQ _ _ _ ⟨.x _,ι',fr',m',rfl,hk',hs'⟩
  ·exact hQ _ _ _ ⟨.r,ι',fr',m',trivial,hk,hs'⟩
 | .loop c,me,ax,hax,hD,ι,fr,m,a,w,k,Q,hs,h,hQ=>wpIn_loop_rounds ax.fuel (loop_ok (fun hs h hQ=>exK_ok c hax hD hs h hQ) ax.fuel hs (h:loopK (fun ax fr m k=>exK c ax fr m k) ax.fuel ax fr m k=.ok) hQ)
 | .rangeFunc x ps asg body,me,ax,hax,hD,ι,fr,m,a,w,k,Q,hs,h,hQ=>by
  obtain⟨v,h1,h2⟩:=ev_ok hs.step.rel hs.fr (h:ev x fr (fun v=>ax.range v m fr ps asg body fun j m=>jumpX j fr m k)=.ok)
  refine hax.range n Q ι0 m0 w0 x ps asg body ι fr m a w v _ hs (DrawsIn.left hD rfl).1 (DrawsIn.left hD rfl).2 h2 h1 fun j m' ι' a' w' hj hs'=>?_
  cases j with
  |none=>exact hQ _ _ _ ⟨.n,ι',fr,m',trivial,hj,hs'⟩
  |some c=>
   cases c<;>first|(cases hj;done)|skip
   ·exact wpIn_exit (hQ _ _ _ ⟨.x _,ι',fr,m',rfl,hj,hs'⟩)
   ·exact wpIn_ret (hQ _ _ _ ⟨.r,ι',fr,m',trivial,hj,hs'⟩)
 | .exit id,me,ax,hax,hD,ι,fr,m,a,w,k,Q,hs,h,hQ=>wpIn_exit (hQ _ _ _ ⟨.x id,ι,fr,m,rfl,h,hs⟩)
 | .scope c,me,ax,hax,hD,ι,fr,m,a,w,k,Q,hs,h,hQ=>wpIn_scope (exK_ok c hax hD hs (h:exK c ax fr m k=.ok) fun e a w ⟨x,ι',fr',m',hx,hk,hs'⟩=>by
   cases e<;>cases x<;>simp only[exitIs] at hx<;>try exact hx.elim
   ·exact hQ _ _ _ ⟨.n,ι',fr',m',trivial,hk,hs'⟩
   ·exact hQ _ _ _ ⟨.x _,ι',fr',m',hx,hk,hs'⟩
   ·exact hQ _ _ _ ⟨.r,ι',fr',m',trivial,hk,hs'⟩)
 | .label _,me,ax,hax,hD,ι,fr,m,a,w,k,Q,hs,h,hQ=>wpIn_label (hQ _ _ _ ⟨.n,ι,fr,m,trivial,h,hs⟩)
 | .goto _,me,ax,hax,hD,ι,fr,m,a,w,k,Q,hs,h,hQ=>by cases h
 | .ret,me,ax,hax,hD,ι,fr,m,a,w,k,Q,hs,h,hQ=>wpIn_ret (hQ _ _ _ ⟨.r,ι,fr,m,trivial,h,hs⟩)
 | .refuse _,me,ax,hax,hD,ι,fr,m,a,w,k,Q,hs,h,hQ=>by cases h
end
end Go.AM
end
section
namespace Go.AM
theorem no_next:(Extern.allNextRows.lookup "").isNone=true∧(Extern.allNextRows.lookup "internal/abi.NoEscape").isNone=true∧(Extern.allNextRows.lookup "internal/bytealg.IndexByteString").isNone=true∧(Extern.allNextRows.lookup "internal/bytealg.abigen_runtime_cmpstring").isNone=true:=
 ⟨by kernel_rfl,by kernel_rfl,by kernel_rfl,by kernel_rfl⟩
theorem no_generic:(Extern.allGenericRows.lookup "internal/abi.NoEscape").isNone=true∧(Extern.allGenericRows.lookup "internal/bytealg.IndexByteString").isNone=true∧(Extern.allGenericRows.lookup "internal/bytealg.abigen_runtime_cmpstring").isNone=true:=
 ⟨by kernel_rfl,by kernel_rfl,by kernel_rfl⟩
theorem no_typed:(Extern.allTypedRows.lookup "internal/abi.NoEscape").isNone=true∧(Extern.allTypedRows.lookup "internal/bytealg.IndexByteString").isNone=true∧(Extern.allTypedRows.lookup "internal/bytealg.abigen_runtime_cmpstring").isNone=true:=
 ⟨by kernel_rfl,by kernel_rfl,by kernel_rfl⟩
theorem row_noEscape:Extern.allRows.lookup "internal/abi.NoEscape" =some Extern.AbiNoEscape.same:=by kernel_rfl
theorem row_indexByte:Extern.allRows.lookup "internal/bytealg.IndexByteString" =some Extern.BytealgIndexByte.indexByte:=by kernel_rfl
theorem row_compare:Extern.allRows.lookup "internal/bytealg.abigen_runtime_cmpstring" =some Extern.BytealgCompare.compare:=by kernel_rfl
section
variable {P:Program} {ι:Inj} {m:Mem} {w:World} {k:AV→Mem→R}
theorem ext_run {fid:FuncId} {fn:Func} {e:Array Value→Sem Value} {args:Array Value} (hf:P.funcs[fid]? =some fn) (hb:fn.body=none) (ho:fn.origin= "") (hn:(Extern.allNextRows.lookup fn.name).isNone=true) (hg:(Extern.allGenericRows.lookup fn.name).isNone=true)
  (ht:(Extern.allTypedRows.lookup fn.name).isNone=true) (hr:Extern.allRows.lookup fn.name=some e) (hnum:fn.name≠ "runtime.NumGoroutine") {V:Value} {w':World} (he:(e args).run P w=.ok V w'):
  (callFunc fid args).run P w=.ok (.value V) w':=by
 have h1:Extern.findNext fn=none:=by
  unfold Extern.findNext
  dsimp only
  rw[ho,Option.isNone_iff_eq_none.1 hn,Option.isNone_iff_eq_none.1 no_next.1]
  rfl
 have h2:Extern.find fn=some e:=by
  unfold Extern.find
  dsimp only
  rw[Option.isNone_iff_eq_none.1 hg,Option.isNone_iff_eq_none.1 ht,hr]
  rfl
 simp[callFunc,hf,hnum,hb,h1,h2,he]
theorem indexByte_from {c:Nat} (hc:c≤255) {f:AV→Mem→R}:∀(s:List UInt8) (i:Nat),(List.rec (motive:=fun _=>Nat→R) (fun _=>f (.int .i64 (-1)) m) (fun b _ ih i=>iteB (Nat.beq b.toNat c) (f (.int .i64 (Int.ofNat i)) m) (forceN (Nat.succ i) ih)) s i:R)=
   f (.int .i64 (if Lib.indexByte s (UInt8.ofNat c)== -1 then -1 else Lib.indexByte s (UInt8.ofNat c)+i)) m
 |[],i=>rfl
 |b::s,i=>by
  show iteB (Nat.beq b.toNat c) (f (.int .i64 (Int.ofNat i)) m) (forceN (Nat.succ i) _)=_
  rw[forceN_eq,indexByte_from hc s (i+1),iteB_eq]
  have hge:=Lib.indexByte_ge s (UInt8.ofNat c)
  by_cases h:b=UInt8.ofNat c
  ·have hv:Lib.indexByte (b::s) (UInt8.ofNat c)=0:=by unfold Lib.indexByte;simp[h]
   have:b.toNat=c:=by rw[h];simp;omega
   rw[hv,this]
   simp
  ·have hn:b.toNat≠c:=fun e=>h (by apply UInt8.toNat_inj.1;rw[e];simp;omega)
   have hb:Nat.beq b.toNat c=false:=by cases h':Nat.beq b.toNat c with|false=>rfl|true=>exact absurd (Nat.eq_of_beq_eq_true h') hn
   have hb2:(b==UInt8.ofNat c)=false:=by simpa using h
   by_cases e:Lib.indexByte s (UInt8.ofNat c)= -1
   ·have hv:Lib.indexByte (b::s) (UInt8.ofNat c)= -1:=by unfold Lib.indexByte;simp[e];intro h';exact absurd h' h
    rw[hv,hb,e];simp
   ·have e1:(Lib.indexByte s (UInt8.ofNat c)== -1)=false:=by simpa using e
    have hv:Lib.indexByte (b::s) (UInt8.ofNat c)=Lib.indexByte s (UInt8.ofNat c)+1:=by
     rw[Lib.indexByte];simp[h,e]
    have e2:(Lib.indexByte s (UInt8.ofNat c)+1== -1)=false:=by simp;omega
    rw[hv,hb,e1,e2]
    simp only[Bool.false_eq_true,if_false]
    congr 2
    push_cast
    omega
theorem compare_less:∀a b:List UInt8,Lib.compareBytes a b=if Op.bytesLess a b then -1 else if Op.bytesLess b a then 1 else 0
 |[],[]=>rfl
 |[],_::_=>rfl
 |_::_,[]=>rfl
 |x::a,y::b=>by
  simp only[Lib.compareBytes,Op.bytesLess,compare_less a b]
  by_cases e:x=y
  ·subst e;simp
  ·have e':¬y=x:=fun h=>e h.symm
   by_cases h:x<y
   ·simp[h]
   ·have h2:y<x:=UInt8.lt_of_le_of_ne (UInt8.not_lt.1 h) (Ne.symm e)
    simp[h,h2,e]
theorem extK_ok {fid:FuncId} {fn:Func} {args:List AV} {Args:List Value} (hr:Rel P ι m w) (hf:P.funcs[fid]? =some fn) (hb:fn.body=none) (hargs:concL ι args=some Args) (h:extK fn.name fn.origin args m k=.ok):
  ∃V w',(callFunc fid Args.toArray).run P w=.ok (.value V) w'∧Ret P ι m w k (.returned V) w':=by
 have fin:∀ {V:Value} {v:AV},(callFunc fid Args.toArray).run P w=.ok (.value V) w→conc ι v=some V→k v m=.ok→∃V w',(callFunc fid Args.toArray).run P w=.ok (.value V) w'∧Ret P ι m w k (.returned V) w':=
  fun h1 h2 h3=>⟨_,w,h1,_,rfl,_,ι,m,h3,.refl hr,h2⟩
 unfold extK at h
 split at h<;>first|(cases h;done)|skip
 rename_i ho
 have ho:fn.origin= "" :=by simpa using ho
 split at h
 ·rename_i hn
  have hn:fn.name= "internal/abi.NoEscape" :=by simpa using hn
  split at h<;>first|(cases h;done)|skip
  rename_i x
  simp only[concL,Option.bind_eq_some_iff,Option.map_eq_some_iff] at hargs
  obtain⟨X,hX,_,e,rfl⟩:=hargs
  injection e with e;subst e
  exact fin (ext_run hf hb ho (by rw[hn];exact no_next.2.1) (by rw[hn];exact no_generic.1) (by rw[hn];exact no_typed.1) (by rw[hn];exact row_noEscape) (by rw[hn];decide) rfl) hX h
 ·split at h
  ·rename_i hn
   have hn:fn.name= "internal/bytealg.IndexByteString" :=by simpa using hn
   split at h<;>first|(cases h;done)|skip
   rename_i s c
   obtain⟨c,rfl,h1⟩:=natK_ok h
   obtain⟨h2,h3⟩:=ifB_ok h1
   have hc:=Nat.le_of_ble_eq_true h2
   have h3:=(indexByte_from hc s 0).symm.trans h3
   simp only[concL,conc,Option.bind_some,Option.map_some,Option.some.injEq] at hargs
   subst hargs
   refine fin (ext_run hf hb ho (by rw[hn];exact no_next.2.2.1) (by rw[hn];exact no_generic.2.1) (by rw[hn];exact no_typed.2.1) (by rw[hn];exact row_indexByte) (by rw[hn];decide) (Lib.run_indexByteString _ _ w)) ?_ h3
   simp only[conc]
   congr 2
   have e:(c:Int).toNat.toUInt8=UInt8.ofNat c:=rfl
   simp
   intro h;exact h.symm
  ·split at h
   ·rename_i hn
    have hn:fn.name= "internal/bytealg.abigen_runtime_cmpstring" :=by simpa using hn
    split at h<;>first|(cases h;done)|skip
    rename_i a b
    simp only[concL,conc,Option.bind_some,Option.map_some,Option.some.injEq] at hargs
    subst hargs
    refine fin (v:=.int .i64 (Lib.compareBytes a b)) (ext_run hf hb ho (by rw[hn];exact no_next.2.2.2) (by rw[hn];exact no_generic.2.2) (by rw[hn];exact no_typed.2.2) (by rw[hn];exact row_compare) (by rw[hn];decide) (Lib.run_compareString _ _ w)) (by simp[conc]) ?_
    rw[iteB_eq,iteB_eq,strLt_ok,strLt_ok] at h
    rw[compare_less]
    split at h
    ·rename_i hl;rw[if_pos hl];exact h
    ·rename_i hl
     rw[if_neg hl]
     split at h
     ·rename_i hl2;rw[if_pos hl2];exact h
     ·rename_i hl2;rw[if_neg hl2];exact h
   ·cases h
end
end Go.AM
end
section
namespace Go.AM
section
variable {P:Program} {ι:Inj} {m:Mem} {w:World} {g:G} {mask:Nat}
def resVal (tmps:Array Value) (r:ResultVar):Sem Value:=match r with
 | .tmp t=>pure (tmps.getD t undef)
 | .cell a t=>do loadVar t (← asAddr (tmps.getD a undef))
theorem results_eq (fn:Func) (tmps:Array Value):results fn tmps=(do let vs←fn.results.mapM (resVal tmps);pure (if h:vs.size=1 then vs[0] else .tuple vs)):=rfl
theorem resOneK_ok (hg:GOk P g) (hr:Rel P ι m w) {fr:Fr} {tmps:Array Value} (hf:FrRel P ι fr mask tmps) {r:ResultVar} {k:AV→R} (h:resOneK g fr m r k=.ok):∃v V,k v=.ok∧conc ι v=some V∧(resVal tmps r).run P w=.ok V w:=by
 cases r with
 |tmp t=>
  obtain⟨v,h1,h2⟩:=Fr.getK_ok (h:fr.getK t k=.ok)
  obtain⟨V,h3,h4⟩:=hf.val t v h1
  exact⟨v,V,h2,h3,by simp[resVal,h4]⟩
 |cell a t=>
  obtain⟨v,h1,h2⟩:=Fr.getK_ok (h:fr.getK a _=.ok)
  obtain⟨V,h3,h4⟩:=hf.val a v h1
  obtain⟨s,h5,h6⟩:=optK_ok h2
  obtain⟨u,U,k1,k2,k3⟩:=loadK_ok hg hr h5 h3 h6
  refine⟨u,U,k1,k2,?_⟩
  have e:tmps.getD a undef=V:=by simp[h4]
  simp only[resVal,e]
  cases v<;>first|(cases h6;done)|skip
  obtain⟨p,hp,rfl⟩:=conc_ptr h3
  simpa[Instr.loadAt,asAddr,Instr.sureAddr] using k3
theorem resultsL_ok (hg:GOk P g) (hr:Rel P ι m w) {fr:Fr} {tmps:Array Value} (hf:FrRel P ι fr mask tmps):∀ {rs:List ResultVar} {f:List AV→R},mapK (resOneK g fr m) rs f=.ok→
  ∃l L,f l=.ok∧concL ι l=some L∧(rs.mapM (resVal tmps)).run P w=.ok L w
 |[],f,h=>⟨[],[],h,rfl,by simp⟩
 |r::rs,f,h=>by
  obtain⟨v,V,h1,h2,h3⟩:=resOneK_ok hg hr hf (h:resOneK g fr m r (fun b=>mapK (resOneK g fr m) rs fun l=>f (b::l))=.ok)
  obtain⟨l,L,h4,h5,h6⟩:=resultsL_ok hg hr hf h1
  refine⟨v::l,V::L,h4,by simp[concL,h2,h5],?_⟩
  rw[List.mapM_cons]
  simp only[Sem.run_bind,h3,Result.andThen_ok,h6,Sem.run_pure]
theorem resK_ok (hg:GOk P g) (hr:Rel P ι m w) {fr:Fr} {tmps:Array Value} (hf:FrRel P ι fr mask tmps) {fn:Func} {f:AV→R} (h:resK g fn.results.toList fr m f=.ok):
  OutP P ι w f ((results fn tmps).run P w):=by
 obtain⟨l,L,h1,h2,h3⟩:=resultsL_ok hg hr hf h
 have hl:=concL_length h2
 have hm:(fn.results.mapM (resVal tmps)).run P w=.ok L.toArray w:=by
  rw[Array.mapM_eq_mapM_toList]
  simp only[Sem.run_map,h3]
  rfl
 rw[results_eq,Sem.run_bind,hm]
 simp only[Result.andThen_ok,Sem.run_pure]
 have many:l.length≠1→f (.tup l)=.ok→OutP P ι w f (.ok (if h:L.toArray.size=1 then L.toArray[0] else .tuple L.toArray) w):=fun hne h1=>by
  refine⟨.tup l,.tuple L.toArray,h1,by simp[conc,h2],?_⟩
  rw[dif_neg (by simp;omega)]
 rcases l with _|⟨v,_|⟨u,l⟩⟩
 ·exact many (by simp) h1
 ·simp only[concL,Option.bind_eq_some_iff,Option.map_eq_some_iff] at h2
  obtain⟨V,h4,_,e,rfl⟩:=h2
  injection e with e;subst e
  exact⟨v,V,h1,h4,by simp⟩
 ·exact many (by simp) h1
theorem argsK_ok:∀ {args:List AV} {n:Nat} {l:Log} {f:Log→R},argsK args n l f=.ok→∃log,f log=.ok∧∀k x,log.find k=some x→(n≤k∧args[k - n]? =some x)∨l.find k=some x
 |[],n,l,f,h=>⟨l,h,fun _ _ h=>.inr h⟩
 |v::args,n,l,f,h=>by
  have h':forceN (Nat.succ n) (fun n'=>argsK args n' (.cons n v l) f)=.ok:=h
  rw[forceN_eq] at h'
  obtain⟨log,h1,h2⟩:=argsK_ok h'
  refine⟨log,h1,fun k x hx=>?_⟩
  rcases h2 k x hx with⟨h3,h4⟩|h3
  ·left
   have e:k - n=(k - (n+1))+1:=by omega
   exact⟨by omega,by rw[e];simpa using h4⟩
  ·simp only[Log.find] at h3
   split at h3
   ·rename_i e
    subst e
    injection h3 with h3;subst h3
    left;simp
   ·exact .inr h3
theorem beginFr (hn:g.nglob≤P.globals.size) {args:List AV} {Args:List Value} {nt:Nat} (hargs:concL ι args=some Args) (hle:args.length≤nt) {log:Log} (hlog:∀k x,log.find k=some x→(0≤k∧args[k - 0]? =some x)∨Log.nil.find k=some x):
  FrRel P ι ⟨log,.nil 8,nt,g.nglob⟩ mask (Args.toArray++Array.replicate (nt - Args.toArray.size) undef):=by
 have hl:=concL_length hargs
 refine⟨by simp;omega,hn,fun k x hx=>by simp[T.find] at hx,fun k x hx=>?_⟩
 simp only[Fr.find,T.find,Option.or_none] at hx
 rcases hlog k x hx with⟨_,h2⟩|h2
 ·obtain⟨V,h3,h4⟩:=concL_get hargs (by simpa using h2)
  refine⟨V,h3,?_⟩
  have hlt:k<Args.length:=by
   rcases Nat.lt_or_ge k Args.length with h|h
   ·exact h
   ·rw[List.getElem?_eq_none h] at h4;cases h4
  rw[Array.getElem?_append_left (by simpa using hlt)]
  simpa using h4
 ·simp[Log.find] at h2
theorem Step.hidden {ι ι':Inj} {m m':Mem} {w w':World} (h:Step P ι m w ι' m' w') {r:Nat} {o:Obj} (hr:w.heap.size≤r) (hocc:¬occ ι' m' r):Step P ι m w ι' m' {w' with heap:=w'.heap.setIfInBounds r o}:=by
 have hk:∀k,k≠r→(w'.heap.setIfInBounds r o)[k]? =w'.heap[k]? :=fun k hk=>by rw[Array.getElem?_setIfInBounds_ne (Ne.symm hk)]
 refine⟨h.le,⟨h.rel.fresh,h.rel.low,fun b x hx=>?_,h.rel.apart⟩,by simpa using h.size,fun k h1 h2=>?_,h.wrs,h.os,h.tape,h.output,h.next,h.names,h.occs⟩
 ·obtain⟨p,h1,h2⟩:=h.rel.blk b x hx
  exact⟨p,h1,h2.at (hk _ fun e=>hocc ⟨b,x,p,hx,h1,e⟩)⟩
 ·rw[←h.old k h1 h2];exact hk k (by omega)
theorem leaves_ok {F:Fence} {n:Nat} {fn:Func} {tmps:Array Value} {R':Ending→World→Prop} {ι0:Inj} {m0:Mem} {w0:World} (hR:∀w,Step P ι0 m0 w0 ι m w→LeavesIn F n P fn tmps R' [] .returning w):∀ {ds:List Deferred} {w:World},
  Step P ι0 m0 w0 ι m w→DefOk w0.heap.size ι m w ds→LeavesInM F n P fn tmps R' ds .returning w
 |[],w,hs,_=>hR w hs
 |d::ds,w,hs,⟨⟨r,h1,h2,h3,h4,h5⟩,h6⟩=>by
  subst h1
  refine⟨by simp,.inl ⟨r,_,rfl,run_takeDeferred h3,?_⟩⟩
  refine leaves_ok hR (hs.hidden h2 h4) ?_
  have:∀ {ds:List Deferred},(∀d'∈ds,d'.target≠.collected r)→DefOk w0.heap.size ι m w ds→DefOk w0.heap.size ι m {w with heap:=w.heap.setIfInBounds r (.deferred none)} ds:=by
   intro ds
   induction ds with
   |nil=>intro _ _;trivial
   |cons d ds ih=>
    intro hne ⟨⟨q,e,g2,g3,g4,g5⟩,g6⟩
    have hqr:q≠r:=fun e'=>hne d (List.mem_cons_self ..) (by rw[e,e'])
    exact⟨⟨q,e,g2,by show(w.heap.setIfInBounds r _)[q]? =_;rw[Array.getElem?_setIfInBounds_ne (Ne.symm hqr)];exact g3,g4,g5⟩,ih (fun d' h'=>hne d' (List.mem_cons_of_mem _ h')) g6⟩
  exact this h5 h6
theorem DefOk.lt {N:Nat}:∀ {ds:List Deferred},DefOk N ι m w ds→∀ {d:Deferred} {r:Nat},d∈ds→d.target=.collected r→r<w.heap.size
 |[],_,d,r,h,_=>by cases h
 |e::ds,⟨⟨q,h1,h2,h3,h4,h5⟩,h6⟩,d,r,h,ht=>by
  rcases List.mem_cons.1 h with rfl|h
  ·rw[h1] at ht
   injection ht with ht
   subst ht
   exact heap_lt h3
  ·exact h6.lt h ht
theorem noRange_ok {F:Fence} {me:FuncId}:RangeOk P F mask me noRange:=fun _ _ _ _ _ _ _ _ _ _ _ _ _ _ _ _ _ _ _ _ h=>by cases h
theorem runFn_ok (hg:GOk P g) (hflat:∀t,g.isFlat t=true→Flat P t) {ih:CallF} (hc:CallOk P ih) {fuel:Nat} {draw:FuncId→DrawF} (hd:∀(f:FuncId) (F:Fence) (mask:Nat),Wide F→DrawOk P F mask f (draw f))
  {f:FuncId} (hrange:∀mask,RangeOk P Fence.wide mask f (rangeCallK g ih mask f)) {fn:Func} {c:Code} (hf:P.funcs[f]? =some fn) (hb:fn.body=some c) (hr:Rel P ι m w) {args:List AV} {Args:List Value} (hargs:concL ι args=some Args) {k:AV→Mem→R}
  (h:runFn g fuel draw ih f fn args m k=.ok) (n:Nat):CallsIn Fence.wide n P f Args.toArray w (Ret P ι m w k):=by
 unfold runFn at h
 rw[hb] at h
 have h:forceN (funcMask fn) (fun mask=>lenK args fun n=>ifB 0 (Nat.ble n fn.ntmps) (argsK args 0 .nil fun log=>
   exK c ⟨g,fuel,mask,ih,rangeCallK g ih mask f,draw f⟩ ⟨log,.nil 8,fn.ntmps,g.nglob⟩ m fun e fr m=>X.rec (motive:=fun _=>R) (resK g fn.results.toList fr m fun v=>k v m) (fun _=>.bad 0) (resK g fn.results.toList fr m fun v=>k v m) e))=.ok:=h
 rw[forceN_eq,lenK_eq] at h
 obtain⟨h1,h2⟩:=ifB_ok h
 obtain⟨log,h3,h4⟩:=argsK_ok h2
 have hle:=Nat.le_of_ble_eq_true h1
 generalize funcMask fn=mask at h3
 have hax:AxOk P Fence.wide f ⟨g,fuel,mask,ih,rangeCallK g ih mask f,draw f⟩:=⟨hg,hflat,hc,.inl rfl,hrange mask,hd f _ mask (.inl rfl)⟩
 refine callsIn_of_wp_marks hf hb trivial ?_
 refine exK_ok c hax (fun r hr=>⟨fn,c,hf,hb,hr⟩) (ι:=ι) (ι0:=ι) (m0:=m) (w0:=w) ⟨.refl hr,beginFr hg.nglob hargs hle h4,trivial⟩ h3 fun e a w' ⟨x,ι',fr,m',hx,hk,hs⟩=>?_
 have fin:resK g fn.results.toList fr m' (fun v=>k v m')=.ok→LeavesInM Fence.wide n P fn a.tmps (Ret P ι m w k) a.defers .returning w':=fun h0=>by
  refine leaves_ok (ι0:=ι) (m0:=m) (w0:=w) (ι:=ι') (m:=m') (fun w2 hs2=>?_) hs.step hs.defs
  obtain⟨v,V,r1,r2,r3⟩:=resK_ok (w:=w2) hg hs2.rel hs.fr h0
  exact⟨V,r3,V,rfl,v,ι',m',r1,hs2,r2⟩
 cases e<;>cases x<;>simp only[exitIs] at hx<;>first|exact hx.elim|skip
 ·exact fin hk
 ·cases hk
 ·exact fin hk
theorem setAll_ok:∀ {ps:List Tmp} {args:List AV} {Args:List Value} {fr:Fr} {tmps:Array Value} {f:Fr→R},FrRel P ι fr mask tmps→concL ι args=some Args→setAll ps args fr f=.ok→
  ∃fr',f fr'=.ok∧FrRel P ι fr' mask ((ps.zip Args).foldl (fun tmps (x:Tmp×Value)=>tmps.setIfInBounds x.1 x.2) tmps)∧ps.length=Args.length
 |[],[],Args,fr,tmps,f,hf,hargs,h=>by
  simp only[concL,Option.some.injEq] at hargs
  subst hargs
  exact⟨fr,h,hf,rfl⟩
 |[],_::_,_,_,_,_,_,_,h=>by cases h
 |_::_,[],_,_,_,_,_,_,h=>by cases h
 |p::ps,a::args,Args,fr,tmps,f,hf,hargs,h=>by
  simp only[concL,Option.bind_eq_some_iff,Option.map_eq_some_iff] at hargs
  obtain⟨A,hA,L,hL,rfl⟩:=hargs
  obtain⟨h1,h2⟩:=Fr.setK_eq (h:fr.setK p a (fun fr=>setAll ps args fr f)=.ok)
  obtain⟨fr',h3,h4,h5⟩:=setAll_ok (hf.set h1 hA) hL h2
  exact⟨fr',h3,by simpa using h4,by simp[h5]⟩
theorem Step.record (hr:Rel P ι m w) {l:Nat} {st st':Nat} {pend pend':Option Code} {fr:Fr} {fid:FuncId} {ps:List Tmp} {asg body:Code} {p:Pl} {L L':Loop} (hb:m.t.find l l=some (.loop st pend fr mask fid ps asg body)) (hp:ι l=some p)
  (hL:w.heap[p.blk]? =some (.loop L)) (e1:stOf L'.state=st') (e2:L'.pending=pend') (e4:L'.params=L.params) (e5:L'.assign=L.assign) (e6:L'.body=L.body) (e7:L'.tmps=L.tmps) {f:Mem→R}
  (h:putK m l (.loop st' pend' fr mask fid ps asg body) f=.ok):∃m',f m'=.ok∧Step P ι m w ι m' (w.putObj p.blk (.loop L')):=by
 obtain⟨k0,kd,L0,k1,k2,k3,k5,k6,k7,k8⟩:=blkOf hr hb hp
 rw[hL] at k1;injection k1 with k1;injection k1 with k1;subst k1
 obtain⟨t',h1,h2⟩:=T.setK_ok (h:m.t.setK l _ (fun t=>f ⟨m.next,t⟩)=.ok)
 refine⟨_,h1,Step.put hr hb rfl hp h2 (by simp[World.putObj]) (fun k hk=>by simp[World.putObj,Array.getElem?_setIfInBounds_ne (Ne.symm hk)]) rfl rfl rfl
  ⟨k0,kd,L',by rw[World.putObj_heap_same (heap_lt hL)],e1,e2,e4.trans k5,e5.trans k6,e6.trans k7,by rw[e7];exact k8⟩⟩
theorem finK_ok (hr:Rel P ι m w) {l:Nat} {st:Nat} {pend:Option Code} {b:Bool} {k:AV→Mem→R} {p:Pl} (hp:ι l=some p) (hst:st=if pend.isNone then 0 else 2) (hb:b=pend.isNone) (h:finK l st pend b m k=.ok):
  ∃v w',(Instr.endRound p.blk pend).run P w=.ok v w'∧Ret P ι m w k (.returned v) w':=by
 obtain⟨x,h1,h2⟩:=T.getK_ok (h:m.t.getK l _=.ok)
 split at h2<;>first|(cases h2;done)|skip
 rename_i st0 p0 fr mask f ps asg body
 obtain⟨k0,kd,L,k1, -⟩:=blkOf hr h1 hp
 obtain⟨m',h3,h4⟩:=Step.record hr h1 hp k1 (L':= {L with state:=if pend.isNone then .ready else .done,pending:=pend}) (by subst hst;cases pend<;>rfl) rfl rfl rfl rfl rfl h2
 exact⟨_,_,run_endRound pend k1,_,rfl,.bool b,ι,m',h3,h4,by simp[conc,hb]⟩
theorem runRound_ok (hg:GOk P g) (hflat:∀t,g.isFlat t=true→Flat P t) {ih:CallF} (hc:CallOk P ih) {fuel:Nat} {draw:FuncId→DrawF} (hd:∀(f:FuncId) (F:Fence) (mask:Nat),Wide F→DrawOk P F mask f (draw f))
  (hr:Rel P ι m w) {l:Nat} {p:Pl} (hp:ι l=some p) {args:List AV} {Args:List Value} (hargs:concL ι args=some Args) {k:AV→Mem→R} (h:runRound g fuel draw ih l args m k=.ok):
  ∃fn tmps asg body,(Instr.yield p.blk Args.toArray).run P w=.ok (.round p.blk fn tmps asg body) w∧∀n,RoundIn Fence.wide n P p.blk fn tmps asg body w (Ret P ι m w k):=by
 obtain⟨x,h1,h2⟩:=T.getK_ok (h:m.t.getK l _=.ok)
 split at h2<;>first|(cases h2;done)|skip
 rename_i st pend fr mask f ps asg body
 obtain⟨k0,kd,L,k1,k2,k3,k5,k6,k7,k8⟩:=blkOf hr h1 hp
 obtain⟨fr',h3,h4,h5⟩:=setAll_ok k8 hargs h2
 have hsz:Args.toArray.size=L.params.size:=by rw[k5];simp[h5]
 refine⟨L.fn,_,L.assign,L.body,run_yield k1 hsz,fun n=>?_⟩
 have htm:(L.params.zip Args.toArray).foldl (fun tmps (t,a)=>tmps.setIfInBounds t a) L.tmps=(ps.zip Args).foldl (fun tmps (x:Tmp×Value)=>tmps.setIfInBounds x.1 x.2) L.tmps:=by
  rw[k5,←Array.foldl_toList]
  simp
 rw[htm,k6,k7]
 have hax:AxOk P (Fence.wide.inRound p.blk) f ⟨g,fuel,mask,ih,noRange,draw f⟩:=⟨hg,hflat,hc,.inr ⟨_,rfl⟩,noRange_ok,hd f _ mask (.inr ⟨_,rfl⟩)⟩
 refine roundIn_of_wpIn trivial ?_
 refine exK_ok asg hax kd.1 (ι:=ι) (ι0:=ι) (m0:=m) (w0:=w) ⟨.refl hr,h4,trivial⟩ h3 fun e a w1 ⟨x,ι1,fr1,m1,hx,hk,hs⟩=>?_
 cases e<;>cases x<;>simp only[exitIs] at hx<;>first|exact hx.elim|(cases hk;done)|skip
 have hp1:=hs.step.le _ _ hp
 obtain⟨y,h6,h7⟩:=T.getK_ok (hk:m1.t.getK l _=.ok)
 split at h7<;>first|(cases h7;done)|skip
 rename_i pend1 fr2 mask1 f1 ps1 asg1 body1
 obtain⟨j0,jd,L1,j1,j2, -⟩:=blkOf hs.step.rel h6 hp1
 have hready:L1.state=.ready:=by
  cases hL1:L1.state<;>rw[hL1] at j2<;>first|rfl|cases j2
 obtain⟨m2,h8,h9⟩:=Step.record hs.step.rel h6 hp1 j1 (L':= {L1 with state:=.busy}) rfl (by
  obtain⟨_,_,L2,q1,_,q3,_⟩:=blkOf hs.step.rel h6 hp1
  rw[j1] at q1;injection q1 with q1;injection q1 with q1;subst q1
  exact q3) rfl rfl rfl rfl h7
 refine⟨_,run_beginRound j1 hready,?_⟩
 refine exK_ok body hax kd.2 (ι:=ι1) (ι0:=ι) (m0:=m) (w0:=w) ⟨hs.step.trans h9,hs.fr,hs.defs.step h9⟩ h8 fun e a w2 ⟨x,ι2,fr3,m3,hx,hk,hs2⟩=>?_
 have hp2:=hs2.step.le _ _ hp
 have fin:∀ {pend:Option Code} {st:Nat} {b:Bool},(st=if pend.isNone then 0 else 2)→b=pend.isNone→finK l st pend b m3 k=.ok→∃v w',(Instr.endRound p.blk pend).run P w2=.ok v w'∧Ret P ι m w k (.returned v) w':=fun {pend st b} e1 e2 h0=>by
  obtain⟨v,w',r1,V,r2,v',ι',m',r3,r4,r5⟩:=finK_ok hs2.step.rel hp2 e1 e2 h0
  exact⟨v,w',r1,V,r2,v',ι',m',r3,hs2.step.trans r4,r5⟩
 cases e<;>cases x<;>simp only[exitIs] at hx<;>first|exact hx.elim|skip
 ·exact fin rfl rfl hk
 ·subst hx;exact fin rfl rfl hk
 ·exact fin rfl rfl hk
theorem rangeCallK_ok (hg:GOk P g) {ih:CallF} (hc:CallOk P ih) (f:FuncId):RangeOk P Fence.wide mask f (rangeCallK g ih mask f):=by
 intro n Q ι0 m0 w0 x ps asg body ι fr m a w v κ hs hDa hDb hv h hκ
 refine wpIn_rangeFunc fun fn _=>?_
 obtain⟨t',h1,h2⟩:=newK_ok (h:newK m (.loop 0 none fr mask f ps.toList asg body) _=.ok)
 let L0:Loop:= {state:=.ready,pending:=none,fn,tmps:=a.tmps,params:=ps,assign:=asg,body,defers:=w.heap.size}
 let w1:World:=(w.alloc (.deferred (some []))).alloc (.loop L0)
 have hL0:w1.heap[w.heap.size+1]? =some (.loop L0):=by
  show((w.heap.push _).push _)[w.heap.size+1]? =_
  rw[Array.getElem?_push,if_pos (by simp)]
 have hh:∀k,k<w.heap.size→w1.heap[k]? =w.heap[k]? :=fun k hk=>by
  show((w.heap.push _).push _)[k]? =_
  rw[Array.getElem?_push,if_neg (by simp;omega),Array.getElem?_push,if_neg (by omega)]
 have hA:Step P ι m w ι m (w.alloc (.deferred (some []))):=by
  have hk:∀k,k<w.heap.size→(w.alloc (.deferred (some []))).heap[k]? =w.heap[k]? :=fun k hk=>by
   show(w.heap.push _)[k]? =_
   rw[Array.getElem?_push,if_neg (by omega)]
  have hr:=hs.step.rel
  exact⟨.refl _,⟨hr.fresh,hr.low,fun b x hx=>let⟨p,q1,q2⟩:=hr.blk b x hx;⟨p,q1,q2.at (hk _ (blk_lt q2))⟩,hr.apart⟩,by simp,fun k h1 _=>hk k h1,fun _ _ h=>h,rfl,rfl,rfl,Nat.le_refl _,fun _ _ h=>h,fun _ _ h=>h⟩
 have hB:Step P ι m (w.alloc (.deferred (some []))) (ι.set m.next ⟨w.heap.size+1,0,0,0⟩) ⟨m.next+1,t'⟩ w1:=by
  refine Step.new hA.rel h1 (p:=⟨w.heap.size+1,0,0,0⟩) (by simp) rfl rfl rfl rfl ?_
  refine⟨rfl,⟨hDa,hDb⟩,L0,hL0,rfl,rfl,by simp[L0],rfl,rfl,?_⟩
  exact hs.fr.mono (Inj.le_set (hA.rel.fresh _ (Nat.le_refl _)))
 have hAB:=hA.trans hB
 have hv':=conc_mono hAB.le hv
 have hpl:(ι.set m.next ⟨w.heap.size+1,0,0,0⟩) m.next=some ⟨w.heap.size+1,0,0,0⟩:=by simp[Inj.set]
 cases v<;>first|(cases h2;done)|skip
 rename_i fnv first cap
 obtain⟨f',a',c',g1,g2,g3,g4⟩:=conc_fn hv'
 have h2:resolveFn fnv first cap [.fn (.yield m.next) [] []] (rangeTgt g ih m.next ⟨m.next+1,t'⟩ κ)=.ok:=h2
 cases fnv<;>first|(cases h2;done)|skip
 case yield l _h=>
  have h2:appK first [.fn (.yield m.next) [] []] (fun a=>rangeTgt g ih m.next ⟨m.next+1,t'⟩ κ (.yield l a))=.ok:=h2
  rw[appK_eq] at h2
  cases h2
 rename_i fid _h
 have h2:appK [.fn (.yield m.next) [] []] cap (fun a=>appK first a fun a=>rangeTgt g ih m.next ⟨m.next+1,t'⟩ κ (.fn fid a))=.ok:=h2
 rw[appK_eq,appK_eq] at h2
 simp only[concFn,Option.some.injEq] at g1
 subst g1
 obtain⟨fn',h3,h4⟩:=T.getK_ok (h2:g.ft.getK fid _=.ok)
 have hfn':=hg.ft _ _ h3
 obtain⟨hbody,h4⟩:=ifB_ok (h4:ifB 0 fn'.body.isSome _=.ok)
 have hy:conc (ι.set m.next ⟨w.heap.size+1,0,0,0⟩) (.fn (.yield m.next) [] [])=some (.func (.yield (w.heap.size+1)) #[] #[]):=by simp[conc,concFn,concL,hpl]
 have hargs:=concL_append g2 (concL_append (l:=[.fn (.yield m.next) [] []]) (L:=[.func (.yield (w.heap.size+1)) #[] #[]]) (by simp[concL,hy]) g3)
 obtain⟨fn2,q1,⟨q2,q3,q4⟩|⟨q2,_⟩⟩:=hc.fn _ _ w1 _ fid _ _ hB.rel hargs h4
 ·have e1:(a'++([Value.func (.yield (w.heap.size+1)) #[] #[]]++c')).toArray=a'.toArray++ #[.func (.yield (w.heap.size+1)) #[] #[]]++c'.toArray:=by apply Array.ext';simp
  refine⟨w.heap.size+1,[{target:=.collected w.heap.size,args:= #[]}],w1,{target:=.fn (.func fid) c'.toArray,args:=a'.toArray++ #[.func (.yield (w.heap.size+1)) #[] #[]]},w1,fid,
   a'.toArray++ #[.func (.yield (w.heap.size+1)) #[] #[]]++c'.toArray,w1,run_enterLoop_outer fn a.tmps ps asg body,?_,fun _ _=>trivial,?_,fun h=>by simp[Fence.wide] at h,?_⟩
  ·show(Deferred.ofValue (a.eval x) (Array.map a.eval #[.const (.func (.yield (w.heap.size+1)) #[] #[])])).run P w1=_
   rw[g4]
   simp[Deferred.ofValue,Act.eval]
  ·simp only[invoke];rw[←e1];exact q3
  ·rw[←e1]
   refine(q4 _).mono fun e w2 ⟨V,e2,u,ι2,m2,r1,r2,r3⟩=>?_
   subst e2
   obtain⟨y,r4,r5⟩:=T.getK_ok (r1:m2.t.getK m.next _=.ok)
   cases y<;>first|(cases r5;done)|skip
   rename_i st pend fr2 mask2 f2 ps2 asg2 body2
   obtain⟨r6,r7⟩:=ifB_ok r5
   have hp2:=r2.le _ _ hpl
   obtain⟨k0,kd,L,k1,k2,k3,k5,k6,k7,k8⟩:=blkOf r2.rel r4 hp2
   have hbusy:L.state≠.busy:=fun e=>by rw[e] at k2;subst k2;cases r6
   obtain⟨t3,d1,d2⟩:=T.delK_ok (r7:m2.t.delK m.next (fun t=>κ pend ⟨m2.next,t⟩)=.ok)
   have hstep:=r2.trans (Step.drop r2.rel r4 rfl hp2 d2 (w':=w2.putObj (w.heap.size+1) (.loop {L with state:=.exhausted})) (by simp[World.putObj]) (fun k hk=>by simp[World.putObj,Array.getElem?_setIfInBounds_ne (Ne.symm hk)]) rfl rfl rfl)
   have hall:=hAB.trans hstep
   have key:=hκ pend _ ι2 {a with defers:=[{target:=.collected w.heap.size,args:= #[]}]++a.defers} (w2.putObj (w.heap.size+1) (.loop {L with state:=.exhausted})) d1 ⟨hs.step.trans hall,?_,?_⟩
   ·refine⟨pend,_,?_,key⟩
    rw[run_endLoop k1 hbusy,k3]
   ·exact hs.fr.mono hall.le
   ·refine DefOk.step hstep (ds:= {target:=.collected w.heap.size,args:= #[]}::a.defers) ⟨⟨w.heap.size,rfl,hs.step.size,?_,?_,fun d' hd' e=>?_⟩,hs.defs.step hAB⟩
    ·show((w.heap.push _).push _)[w.heap.size]? =_
     rw[Array.getElem?_push,if_neg (by simp),Array.getElem?_push,if_pos rfl]
    ·intro ho
     obtain⟨b,y,q,o1,o2,o3⟩:=hB.occs w.heap.size (by simp) ho
     obtain⟨q',o4,o5⟩:=hs.step.rel.blk b y o1
     rw[o2] at o4;injection o4 with o4;subst o4
     have:=blk_lt o5
     omega
    ·have:=hs.defs.lt hd' e
     omega
 ·rw[hfn'] at q1;injection q1 with q1;subst q1
  rw[q2] at hbody;cases hbody
theorem callK_ok (hg:GOk P g) (hflat:∀t,g.isFlat t=true→Flat P t) {fuel:Nat} {draw:CallF→FuncId→DrawF} (hd:∀call,CallOk P call→∀(f:FuncId) (F:Fence) (mask:Nat),Wide F→DrawOk P F mask f (draw call f)):
  ∀depth,CallOk P (callK g fuel draw depth)
 |0=>by
  constructor
  ·intro ι m w k f args Args hr hargs h;cases h
  ·intro ι m w k l p args Args hr hp hargs h;cases h
 |depth+1=>by
  have ih:=callK_ok hg hflat (fuel:=fuel) hd depth
  refine⟨fun ι m w k f args Args hr hargs h=>?_,fun ι m w k l p args Args hr hp hargs h=>?_⟩
  ·obtain⟨fn,h1,h2⟩:=T.getK_ok (h:g.ft.getK f (fun fn=>runFn g fuel (draw (callK g fuel draw depth)) (callK g fuel draw depth) f fn args m k)=.ok)
   have hf:=hg.ft _ _ h1
   refine⟨fn,hf,?_⟩
   cases hb:fn.body with
   |none=>
    right
    unfold runFn at h2
    rw[hb] at h2
    exact⟨rfl,extK_ok hr hf hb hargs h2⟩
   |some c=>
    left
    refine⟨rfl,?_,fun n=>runFn_ok hg hflat ih (hd _ ih) (fun mask=>rangeCallK_ok hg ih f) hf hb hr hargs h2 n⟩
    have:=hg.num f fn hf
    simp[callFunc,hf,this,hb]
  ·exact runRound_ok hg hflat ih (hd _ ih) hr hp hargs h
end
end Go.AM
end
