/- One operation of a drawn region is taken. -/
import Derived.Test.YtmabhhngoklncaaGreatDoorF
import Derived.Test.YtmabhhngoklncaaGreatDoorE
set_option maxRecDepth 100000
set_option maxHeartbeats 40000000
set_option linter.all false
open Go.Proofs.Tryz renaming prog->rA
open Go renaming run_underlying->rB
open Go.Instr renaming checkKey->rC,lookup->rD
open Go Go.RowKit
namespace Go.Proofs.YtmabhhngoklncaaGreatDoor
theorem sA:(∀(a:Act) (d:Nat) (v:Value),a.put (some d) v=⟨a.tmps.setIfInBounds d v,a.defers⟩)/\(∀ {α:Type} (l:List α) (i:Nat) (v:α),l.toArray.setIfInBounds i v=(l.set i v).toArray)/\(∀ {α:Type} {x v:α} {l:List α},(x::l).set 0 v=v::l)/\∀ {α:Type} {x v:α} {l:List α} {i:Nat},(x::l).set (i+1) v=x::l.set i v:=⟨fun _ _ _=>rfl,List.setIfInBounds_toArray,List.set_cons_zero,List.set_cons_succ⟩
section
variable {P:Program} {md:Region.Mode} {ops:Array Oper} {Q:Exit->Act->World->Prop} {S:World->Prop} {oi:Oper} {fuel:Nat} {listed l':Array Bool} {a a':Act} {w:World} (i:Nat) (v:Value)
theorem tk (hy:∀w:World,S w->(execOp a.eval oi).run P w=.ok (.value v) w) (h:wpAnyH P md ops Q S fuel l' a' w) (hS:S w:=by assumption) (hi:ops[i]? =some oi:=by rfl)
  (hl:listed.setIfInBounds i true=l':=by(try simp only[sA]);rfl) (ha:a.put oi.dst v=a':=by(try simp only[sA]);rfl) (hw:Region.wanted oi (yielded ops a.tmps)=true:=by first|rfl|kernel_rfl)
  (hk:(Region.noSelect ops&&Region.free md ops listed i&&(Region.ready md ops listed).contains i)=true:=by kernel_rfl) (hQ:∀c a w,Q (.panic c) (a.put oi.dst v) w->Q (.panic c) a w:=by exact fun _ _ _ h=>h):wpAnyH P md ops Q S (fuel+1) listed a w:=by
 simp only[Bool.and_eq_true] at hk;subst hl ha;exact wpAnyH_take hi hk.1.1 hk.1.2 hk.2 hQ (Or.inl ⟨hw,hy⟩) hS h
theorem tK (h:wpAnyH P md ops Q S fuel l' a' w) (hS:S w:=by assumption) (hi:ops[i]? =some oi:=by rfl) (hy:∀w:World,S w->(execOp a.eval oi).run P w=.ok (.value v) w:=by intro V hV;(try dsimp only at hV);go_simp)
  (hl:listed.setIfInBounds i true=l':=by(try simp only[sA]);rfl) (ha:a.put oi.dst v=a':=by(try simp only[sA]);rfl) (hw:Region.wanted oi (yielded ops a.tmps)=true:=by first|rfl|kernel_rfl)
  (hk:(Region.noSelect ops&&Region.free md ops listed i&&(Region.ready md ops listed).contains i)=true:=by kernel_rfl) (hQ:∀c a w,Q (.panic c) (a.put oi.dst v) w->Q (.panic c) a w:=by exact fun _ _ _ h=>h):wpAnyH P md ops Q S (fuel+1) listed a w:=
 tk i v hy h hS hi hl ha hw hk hQ
theorem tn (h:wpAnyH P md ops Q S fuel l' a' w) (hS:S w:=by assumption) (hi:ops[i]? =some oi:=by rfl)
  (hl:listed.setIfInBounds i true=l':=by(try simp only[sA]);rfl) (ha:a.put oi.dst undef=a':=by(try simp only[sA]);rfl) (hw:Region.wanted oi (yielded ops a.tmps)=false:=by kernel_rfl)
  (hk:(Region.noSelect ops&&Region.free md ops listed i&&(Region.ready md ops listed).contains i)=true:=by kernel_rfl) (hQ:∀c a w,Q (.panic c) (a.put oi.dst undef) w->Q (.panic c) a w:=by exact fun _ _ _ h=>h):wpAnyH P md ops Q S (fuel+1) listed a w:=by
 simp only[Bool.and_eq_true] at hk;subst hl ha;exact wpAnyH_take hi hk.1.1 hk.1.2 hk.2 hQ (Or.inr ⟨hw,rfl⟩) hS h
theorem ty (hi:ops[i]? =some oi) (h:∀K':Act->World->Prop,Shut (∀a w,S w->(S w->wpAnyH P md ops Q S fuel (listed.setIfInBounds i true) a w)->K' a w)->if Region.wanted oi (yielded ops a.tmps)=true then Oper.wp P oi a w K' Q else K' (a.put oi.dst undef) w)
  (hr:Region.ready md ops listed=[i]:=by kernel_rfl):wpAnyH P md ops Q S (fuel+1) listed a w:=wpAnyH_ready hr (by simp) (AllReadyH.cons hi h AllReadyH.nil)
end
structure vJ (kt:TypeId) (K:Value->Prop):Prop where
 check:∀a,K a->∀(e:Bool) (w:World),(rC e 10000 kt a).run rA w=.ok () w
 find:∀a,K a->∀(es:List MapEntry),(∀e∈es,K e.key)->∃r,(∀w:World,(Instr.findKey kt a es).run rA w=.ok r w)/\(r=none/\(∀e∈es,e.key≠a)∨∃i e,r=some (i,e.val)/\es[i]? =some e/\e.key=a)
 same:∀a,K a->Instr.sameBits 10000 a a=true
theorem zCb {d:TypeDesc} {k:Value}:∀ {es:List MapEntry} (_:∀e∈es,∃b,Instr.sameNow d k e.key=some b/\(b=true↔e.key=k)) (i:Nat),∃r,Instr.findNow d k es i=some r/\(r=none/\(∀e∈es,e.key≠k)∨∃j e,r=some (i+j,e.val)/\es[j]? =some e/\e.key=k)
 |[],_,i=>⟨none,rfl,.inl ⟨rfl,by simp⟩⟩
 |e::es,h,i=>by
  obtain⟨b,h1,h2⟩:=h e (by simp);cases b with
  |true=>exact⟨some (i,e.val),by simp[Instr.findNow,h1],.inr ⟨0,e,rfl,rfl,h2.1 rfl⟩⟩
  |false=>
   obtain⟨r,k1,k2⟩:=zCb (es:=es) (fun e' he'=>h e' (List.mem_cons_of_mem _ he')) (i+1);refine⟨r,by simp[Instr.findNow,h1,k1],?_⟩;rcases k2 with⟨rfl,k3⟩|⟨j,e',rfl,k3,k4⟩
   ·refine .inl ⟨rfl,fun e' he'=>?_⟩
    rcases List.mem_cons.1 he' with rfl|he'
    ·exact fun h=>by have:=h2.2 h;cases this
    ·exact k3 e' he'
   ·exact .inr ⟨j+1,e',by rw[Nat.add_assoc,Nat.add_comm 1 j],by simpa using k3,k4⟩
theorem zCX {kt:TypeId} {k:Value}:∀ {es:List MapEntry} (_:∀e∈es,∃b,(∀w:World,(Op.equal kt k e.key).run rA w=.ok b w)/\(b=true↔e.key=k)) (i:Nat),∃r,(∀w:World,(Instr.findAsking kt k es i).run rA w=.ok r w)/\(r=none/\(∀e∈es,e.key≠k)∨∃j e,r=some (i+j,e.val)/\es[j]? =some e/\e.key=k)
 |[],_,i=>⟨none,fun w=>by simp[Instr.findAsking],.inl ⟨rfl,by simp⟩⟩
 |e::es,h,i=>by
  obtain⟨b,h1,h2⟩:=h e (by simp);cases b with
  |true=>exact⟨some (i,e.val),fun w=>by simp[Instr.findAsking,h1],.inr ⟨0,e,rfl,rfl,h2.1 rfl⟩⟩
  |false=>
   obtain⟨r,k1,k2⟩:=zCX (es:=es) (fun e' he'=>h e' (List.mem_cons_of_mem _ he')) (i+1);refine⟨r,fun w=>by simp[Instr.findAsking,h1,k1],?_⟩;rcases k2 with⟨rfl,k3⟩|⟨j,e',rfl,k3,k4⟩
   ·refine .inl ⟨rfl,fun e' he'=>?_⟩
    rcases List.mem_cons.1 he' with rfl|he'
    ·exact fun h=>by have:=h2.2 h;cases this
    ·exact k3 e' he'
   ·exact .inr ⟨j+1,e',by rw[Nat.add_assoc,Nat.add_comm 1 j],by simpa using k3,k4⟩
theorem vJ.int {kt:TypeId} {q:IntKind} (hu:Tryz.prog.underlying kt=some (.int q)):vJ kt (fun a=>∃x,a=.int q x):=by
 refine⟨?_,?_,?_⟩
 ·rintro a ⟨x,rfl⟩ e w
  exact(show∀n:Nat,(rC e (n+1) kt _).run rA w=.ok () w from fun n=>by simp[rC,rB hu]) 9999
 ·rintro a ⟨x,rfl⟩ es hes
  obtain⟨r,h1,h2⟩:=zCb (d:=.int q) (k:=.int q x) (es:=es) (fun e he=>by
   obtain⟨y,hy⟩:=hes e he;exact⟨x==y,by simp[Instr.sameNow,hy],fun h=>by rw[hy,eq_of_beq h],fun h=>by have h':=hy.symm.trans h;simp only[Value.int.injEq,true_and] at h';simp[h']⟩) 0
  exact⟨r,fun w=>by simp[Instr.findKey,rB hu,h1],by simpa using h2⟩
 ·rintro a ⟨x,rfl⟩
  simp[Instr.sameBits]
theorem vJ.str {kt:TypeId} (hu:Tryz.prog.underlying kt=some .string):vJ kt (fun a=>∃x,a=.string x):=by
 refine⟨?_,?_,?_⟩
 ·rintro a ⟨x,rfl⟩ e w
  exact(show∀n:Nat,(rC e (n+1) kt _).run rA w=.ok () w from fun n=>by simp[rC,rB hu]) 9999
 ·rintro a ⟨x,rfl⟩ es hes
  obtain⟨r,h1,h2⟩:=zCb (d:=.string) (k:=.string x) (es:=es) (fun e he=>by
   obtain⟨y,hy⟩:=hes e he;exact⟨x==y,by simp[Instr.sameNow,hy],fun h=>by rw[hy,(MapKept.bytes_beq _ _).1 h],fun h=>by have h':=hy.symm.trans h;simp only[Value.string.injEq] at h';exact(MapKept.bytes_beq _ _).2 h'.symm⟩) 0
  exact⟨r,fun w=>by simp[Instr.findKey,rB hu,h1],by simpa using h2⟩
 ·rintro a ⟨x,rfl⟩
  simp only[Instr.sameBits];exact(MapKept.bytes_beq _ _).2 rfl
def ShV:Nat->Value->Prop
 |0,v=>∃b,v=.bool b
 |1,v=>∃x,v=.int .i64 x
 |_,v=>∃x,v=.int .u16 x
def ShL:List Nat->List Value->Prop
 |[],[]=>True
 |t::ts,v::vs=>ShV t v/\ShL ts vs
 |_,_=>False
def zBg:Value->AM.AV
 | .bool b=>.bool b
 | .int k x=>.int k x
 |_=>.nilp
def clT:Nat->Nat
 |0=>0
 |_=>1
theorem ShV.of {t:Nat} {v:Value} (h:ShV t v):(t=0/\∃b,v=.bool b)∨(t=1/\∃x,v=.int .i64 x)∨(2<=t/\∃x,v=.int .u16 x):=by
 match t,h with
 |0,h=>exact .inl ⟨rfl,h⟩
 |1,h=>exact .inr (.inl ⟨rfl,h⟩)
 |_+2,h=>exact .inr (.inr ⟨by omega,h⟩)
theorem ShV.conc {t:Nat} {v:Value} (h:ShV t v) (ι:AM.Inj):AM.conc ι (zBg v)=some v/\(zBg v).plain=true/\AM.clsOf (zBg v)=clT t:=by
 rcases h.of with⟨rfl,b,rfl⟩|⟨rfl,x,rfl⟩|⟨ht,x,rfl⟩
 ·exact⟨rfl,rfl,rfl⟩
 ·exact⟨rfl,rfl,rfl⟩
 ·refine⟨rfl,rfl,?_⟩
  match t,ht with
  |_+2,_=>rfl
theorem ShV.eq {t:Nat} {a b:Value} (ha:ShV t a) (hb:ShV t b):∃r,(∀f,AM.cellEq (zBg a) (zBg b) f=f r)/\(r=true↔a=b):=by
 rcases ha.of with⟨rfl,x,rfl⟩|⟨rfl,x,rfl⟩|⟨ht,x,rfl⟩
 ·obtain⟨y,rfl⟩:=hb
  exact⟨x==y,fun f=>by cases x<;>cases y<;>rfl,fun h=>by rw[eq_of_beq h],fun h=>by simp only[Value.bool.injEq] at h;simp[h]⟩
 ·obtain⟨y,rfl⟩:=hb
  refine⟨x==y,fun f=>?_,fun h=>by rw[eq_of_beq h],fun h=>by simp only[Value.int.injEq,true_and] at h;simp[h]⟩;show f (AM.intEq x y)=_;rw[AM.intEq_ok]
 ·obtain⟨y,hy⟩:∃y,b=.int .u16 y:=by
   match t,ht,hb with
   |_+2,_,hb=>exact hb
  ·subst hy
   refine⟨x==y,fun f=>?_,fun h=>by rw[eq_of_beq h],fun h=>by simp only[Value.int.injEq,true_and] at h;simp[h]⟩;show f (AM.intEq x y)=_;rw[AM.intEq_ok]
theorem ShL.concL:∀ {ts:List Nat} {vs:List Value},ShL ts vs->∀ι:AM.Inj,AM.concL ι (vs.map zBg)=some vs/\(∀x∈vs.map zBg,x.plain=true)
 |[],[],_,_=>⟨rfl,by simp⟩
 |[],_::_,h,_=>h.elim
 |_::_,[],h,_=>h.elim
 |t::ts,v::vs,h,ι=>by
  obtain⟨h1,h2, -⟩:=h.1.conc ι;obtain⟨h3,h4⟩:=h.2.concL ι;refine⟨by simp[AM.concL,h1,h3],fun x hx=>?_⟩;rcases List.mem_cons.1 hx with rfl|hx
  ·exact h2
  ·exact h4 x hx
theorem ShL.eq:∀ {ts:List Nat} {xs ys:List Value},ShL ts xs->ShL ts ys->∃r,(∀f,AM.cellsEq (xs.map zBg) (ys.map zBg) f=f r)/\(r=true↔xs=ys)
 |[],[],[],_,_=>⟨true,fun _=>rfl,fun _=>rfl,fun _=>rfl⟩
 |[],_::_,_,h,_=>h.elim
 |[],[],_::_,_,h=>h.elim
 |_::_,[],_,h,_=>h.elim
 |_::_,_::_,[],_,h=>h.elim
 |t::ts,x::xs,y::ys,hx,hy=>by
  have e:∀f,AM.cellsEq ((x::xs).map zBg) ((y::ys).map zBg) f=AM.cellEq (zBg x) (zBg y) fun b=>Bool.rec (motive:=fun _=>AM.R) (f false) (AM.cellsEq (xs.map zBg) (ys.map zBg) f) b:=fun f=>rfl
  obtain⟨r,h1,h2⟩:=hx.1.eq hy.1;cases r with
  |false=>exact⟨false,fun f=>by rw[e,h1],fun h=>(by cases h),fun h=>(by injection h with h _;have:=h2.2 h;cases this)⟩
  |true=>
   obtain⟨q,h3,h4⟩:=hx.2.eq hy.2;exact⟨q,fun f=>by rw[e,h1];exact h3 f,fun h=>by rw[h2.1 rfl,h4.1 h],fun h=>by injection h with _ h;exact h4.2 h⟩
theorem zF3:∀ {ts:List Nat} {xs:List Value} {zs:List AM.AV},ShL ts xs->zs.map AM.clsOf=ts.map clT->AM.fitsB (xs.map zBg) zs=true
 |[],[],[],_,_=>rfl
 |[],[],_::_,_,h=>by simp at h
 |[],_::_,_,h,_=>h.elim
 |_::_,[],_,h,_=>h.elim
 |_::_,_::_,[],_,h=>by simp at h
 |t::ts,x::xs,z::zs,hx,hz=>by
  simp only[List.map_cons,List.cons.injEq] at hz;obtain⟨h1,h2⟩:=hz;have h3:=zF3 hx.2 h2;have h4:AM.sameCls (zBg x) z=true:=by
   rcases hx.1.of with⟨rfl,b,rfl⟩|⟨rfl,b,rfl⟩|⟨ht,b,rfl⟩
   ·cases z<;>simp[AM.clsOf,clT] at h1
    rfl
   ·cases z<;>simp[AM.clsOf,clT] at h1
    rfl
   ·have:clT t=1:=by
     match t,ht with
     |_+2,_=>rfl
    rw[this] at h1;cases z<;>simp[AM.clsOf] at h1
    rfl
  show AM.iteB (AM.sameCls (zBg x) z) (AM.fitsB (xs.map zBg) zs) false=true;rw[h4,h3];rfl
theorem vJ.flat {kt:TypeId} {d:TypeDesc} {ts:List Nat} (hu:Tryz.prog.underlying kt=some d) (hF:AM.Flat rA kt) (hz:(AM.zeroAV rA kt).map (fun z=>z.cells.map AM.clsOf)=some (ts.map clT)) (hn:∀X V,Instr.sameNow d (.agg X) V=none):
  vJ kt (fun a=>∃X:List Value,a=.agg X.toArray/\ShL ts X):=by
 obtain⟨z,hz1,hz2⟩:=Option.map_eq_some_iff.1 hz
 let ι:AM.Inj:=fun _=>none
 refine⟨?_,?_,?_⟩
 ·rintro a ⟨X,rfl,hX⟩ e w
  exact hF.key e ι _ X w z hz1 (hX.concL ι).1 (zF3 hX hz2)
 ·rintro a ⟨X,rfl,hX⟩ es hes
  cases es with
  |nil=>exact⟨none,fun w=>by simp[Instr.findKey,rB hu,Instr.findNow],.inl ⟨rfl,by simp⟩⟩
  |cons e0 es=>
   obtain⟨r,h1,h2⟩:=zCX (kt:=kt) (k:=.agg X.toArray) (es:=e0::es) (fun e he=>by
    obtain⟨Y,hY,hY2⟩:=hes e he;obtain⟨q,q1,q2⟩:=hX.eq hY2;refine⟨q,fun w=>?_,fun h=>by rw[hY,q2.1 h],fun h=>by have h':=hY.symm.trans h;simp only[Value.agg.injEq] at h';exact q2.2 (by simpa using h'.symm)⟩;obtain⟨b,k1,k2⟩:=hF.eq ι _ _ X Y (fun b=>if b=q then .ok else .bad 0) w z hz1 (hX.concL ι).1 (hY2.concL ι).1 (zF3 hX hz2) (zF3 hY2 hz2) (by rw[q1,if_pos rfl]);have:b=q:=by
     by_cases e:b=q
     ·exact e
     ·rw[if_neg e] at k1;cases k1
    subst this;rw[hY];exact k2) 0
   exact⟨r,fun w=>by
    obtain⟨Y,hY, -⟩:=hes e0 (by simp);simp[Instr.findKey,rB hu,Instr.findNow,hn,h1],by simpa using h2⟩
 ·rintro a ⟨X,rfl,hX⟩
  exact AM.sameBits_agg (hX.concL ι).1 (hX.concL ι).2 9999
def AMap (w:World) (mb:Nat) (K V:Value->Prop):Prop:=∃es clock,w.heap[mb]? =some (.map es clock)/\∀e∈es.toList,K e.key/\V e.val
section
variable {w:World} {mb:Nat} {K V:Value->Prop} {kt et t:TypeId}
theorem AMap.made (w:World) (K V:Value->Prop):AMap (w.alloc (.map #[] 0)) w.heap.size K V:=⟨#[],0,heap_alloc_new _ _,by simp⟩
theorem AMap.lt (h:AMap w mb K V):mb<w.heap.size:=by
 obtain⟨es,c,h,_⟩:=h;exact(Array.getElem?_eq_some_iff.1 h).1
theorem AMap.of_block {w':World} (h:AMap w mb K V) (hb:w'.heap[mb]? =w.heap[mb]?):AMap w' mb K V:=by
 obtain⟨es,c,h1,h2⟩:=h;exact⟨es,c,hb.trans h1,h2⟩
theorem AMap.mono {V':Value->Prop} (h:AMap w mb K V) (hV:∀v,V v->V' v):AMap w mb K V':=by
 obtain⟨es,c,h1,h2⟩:=h;exact⟨es,c,h1,fun e he=>⟨(h2 e he).1,hV _ (h2 e he).2⟩⟩
theorem xJ {w:World} {r:Nat} {E:Array MapEntry} {c:Nat} (h:w.heap[r]? =some (.map E c)):(getObj r).run rA w=.ok (.map E c) w:=by simp[getObj,Sem.run,h]
theorem zAM {w:World} {r:Nat} {E E':Array MapEntry} {c c':Nat} (h:w.heap[r]? =some (.map E c)):(setObj r (.map E' c')).run rA w=.ok () (ChangeMaps.setBlock w r (.map E' c')):=by
 simp[setObj,Sem.run,h,ChangeMaps.setBlock]
theorem AMap.look (h:AMap w mb K V) (hk:vJ kt K) (ht:Tryz.prog.underlying t=some (.map kt et)) {z:Value} (hz:∀w:World,(zeroValue et).run rA w=.ok z w) {key:Value} (hK:K key):
  ∃(v:Value) (b:Bool),(∀(c:Bool) (n:Nat),(rD t (.map (some mb)) key c).run rA (w.drewN n)=.ok (if c then .tuple #[v,.bool b] else v) (w.drewN n))/\(b=true/\V v∨b=false/\v=z):=by
 obtain⟨es,clock,h1,h2⟩:=h;obtain⟨r,k1,k2⟩:=hk.find key hK es.toList (fun e he=>(h2 e he).1);rcases k2 with⟨rfl, -⟩|⟨i,e,rfl,k3,k4⟩
 ·refine⟨z,false,fun c n=>?_,.inr ⟨rfl,rfl⟩⟩
  have hg:=xJ (w:=w.drewN n) h1;simp[rD,rB ht,hg,hk.check key hK,k1,hz]
 ·refine⟨e.val,true,fun c n=>?_,.inl ⟨rfl,(h2 e (List.mem_of_getElem? k3)).2⟩⟩
  have hg:=xJ (w:=w.drewN n) h1;simp[rD,rB ht,hg,hk.check key hK,k1]
theorem zJ9 (h:AMap w mb K V) (hk:vJ kt K) (ht:Tryz.prog.underlying t=some (.map kt et)) {z:Value} (hz:∀w:World,(zeroValue et).run rA w=.ok z w) {key:Value} (hK:K key)
  {ops:Array Oper} {rest:List Oper} {o:Oper} {a:Act} {Q:Exit->Act->World->Prop} (hg:o.guard=none) (m k:Operand) (c:Bool) (hop:o.op=Op.lookup t m k c) (hm:a.eval m=.map (some mb)) (hke:a.eval k=key)
  (hQ:∀(v:Value) (b:Bool),(b=true/\V v∨b=false/\v=z)->wpList rA ops Q rest (a.put o.dst (if c then .tuple #[v,.bool b] else v)) w):wpList rA ops Q (o::rest) a w:=by
 obtain⟨v,b,h1,h2⟩:=h.look hk ht hz hK;have h1:=h1 c 0;rw[show w.drewN 0=w from rfl] at h1;refine wpList_plain hg fun K' hK'=>?_
 unfold Oper.wp;simp only[execOp,hop,hm,hke,Sem.run_bind,Sem.run_pure,h1,Result.andThen];exact hK' _ _ (hQ v b h2)
theorem AMap.update (h:AMap w mb K V) (hk:vJ kt K) (ht:Tryz.prog.underlying t=some (.map kt et)) {key val:Value} (hK:K key) (hV:V val):
  ∃w',(Instr.mapUpdate t (.map (some mb)) key val).run rA w=.ok () w'/\AMap w' mb K V/\w.mapTurned w' mb:=by
 obtain⟨es,clock,h1,h2⟩:=h;have hlt:=(Array.getElem?_eq_some_iff.1 h1).1;obtain⟨r,k1,k2⟩:=hk.find key hK es.toList (fun e he=>(h2 e he).1);have hg:=xJ h1;have fin:∀(es':Array MapEntry) (clock':Nat),(∀e∈es'.toList,K e.key/\V e.val)->(Instr.mapUpdate t (.map (some mb)) key val).run rA w=.ok () (ChangeMaps.setBlock w mb (.map es' clock'))->
   ∃w',(Instr.mapUpdate t (.map (some mb)) key val).run rA w=.ok () w'/\AMap w' mb K V/\w.mapTurned w' mb:=fun es' clock' he hr=>
  ⟨_,hr,⟨es',clock',by simp[ChangeMaps.setBlock,hlt],he⟩,es,clock,es',clock',h1,rfl⟩
 rcases k2 with⟨rfl, -⟩|⟨i,e,rfl,k3,k4⟩
 ·refine fin (es.push {key:=key,val:=val,born:=clock}) (clock+1) (fun e he=>?_) ?_
  ·rw[Array.toList_push] at he
   rcases List.mem_append.1 he with he|he
   ·exact h2 e he
   ·simp only[List.mem_singleton] at he
    subst he;exact⟨hK,hV⟩
  ·have hs:=zAM (E':=es.push {key:=key,val:=val,born:=clock}) (c':=clock+1) h1
   simp[Instr.mapUpdate,rB ht,hg,hk.check key hK,k1,hs]
 ·have k3':es[i]? =some e:=by rw[<-k3];simp
  have hkts:∀w:World,(Instr.keyThatStays key key).run rA w=.ok key w:=fun w=>by simp[Instr.keyThatStays,hk.same key hK]
  refine fin (es.modify i fun e=> {e with key:=key,val:=val}) clock (fun e' he=>?_) ?_
  ·obtain⟨j,hj⟩:=List.mem_iff_getElem?.1 he
   rw[Array.toList_modify,List.getElem?_modify] at hj;cases hq:es.toList[j]? with
   |none=>rw[hq] at hj;simp at hj
   |some e2=>
    rw[hq] at hj;by_cases hij:i=j
    ·simp[hij] at hj
     subst hj;exact⟨hK,hV⟩
    ·simp[hij] at hj
     subst hj;exact h2 _ (List.mem_of_getElem? hq)
  ·have hs:=zAM (E':=es.modify i fun e=> {e with key:=key,val:=val}) (c':=clock) h1
   simp[Instr.mapUpdate,rB ht,hg,hk.check key hK,k1,k3',k4,hkts,hs]
theorem zDV (h:AMap w mb K V) (hk:vJ kt K) (ht:Tryz.prog.underlying t=some (.map kt et)) {key val:Value} (hK:K key) (hV:V val)
  {ops:Array Oper} {rest:List Oper} {o:Oper} {a:Act} {Q:Exit->Act->World->Prop} (hg:o.guard=none) (m k v:Operand) (hop:o.op=Op.mapUpdate t m k v) (hm:a.eval m=.map (some mb)) (hke:a.eval k=key) (hve:a.eval v=val)
  (hQ:∀w',AMap w' mb K V->w.mapTurned w' mb->wpList rA ops Q rest (a.put o.dst undef) w'):wpList rA ops Q (o::rest) a w:=by
 obtain⟨w',h1,h2,h3⟩:=h.update hk ht hK hV;refine wpList_plain hg fun K' hK'=>?_
 unfold Oper.wp;simp only[execOp,hop,hm,hke,hve,Sem.run_bind,Sem.run_pure,h1,Result.andThen];exact hK' _ _ (hQ w' h2 h3)
end
theorem Fr.turned {p:Nat->Bool} {B:Nat} {w w' w'':World} {mb:Nat} (h:Fr p B w w') (ht:w'.mapTurned w'' mb) (hp:p mb=true∨B<=mb):Fr p B w w'':=by
 obtain⟨es,clock,es',clock',hb,rfl⟩:=ht;refine⟨h.os,h.tape,h.output,by simpa[ChangeMaps.setBlock] using h.size,fun k hk hq=>?_⟩;have hne:mb≠k:=fun e=>by subst e;exact hp.elim (fun hp=>by rw[hq] at hp;cases hp) (fun hp=>by omega)
 rw[<-h.block k hk hq];simp[ChangeMaps.setBlock,hne]
theorem zT {w w':World} {mb:Nat} (ht:w.mapTurned w' mb) {k:Nat} (hne:k≠mb):w'.heap[k]? =w.heap[k]? :=by
 obtain⟨es,clock,es',clock',hb,rfl⟩:=ht;simp[ChangeMaps.setBlock,Ne.symm hne]
theorem zCM {w w':World} {mb:Nat} (ht:w.mapTurned w' mb):w'.heap.size=w.heap.size:=by
 obtain⟨es,clock,es',clock',hb,rfl⟩:=ht;simp[ChangeMaps.setBlock]
theorem zQM:AM.Flat rA 438:=AM.flat_of (ls:=[1,1]) (by kernel_rfl) (by kernel_rfl) (by kernel_rfl) (by kernel_rfl)
theorem zPp:AM.Flat rA 445:=AM.flat_of (ls:=[1,1]) (by kernel_rfl) (by kernel_rfl) (by kernel_rfl) (by kernel_rfl)
theorem zPz:AM.Flat rA 443:=AM.flat_of (ls:=[1,1,0,0,0,0,0,0,0,0,0,0,0,0,0,0,0,0]) (by kernel_rfl) (by kernel_rfl) (by kernel_rfl) (by kernel_rfl)
theorem zPl:AM.Flat rA 424:=AM.flat_of (ls:=[1,1,0,0,0,0,0,0,0,0,0,0,0,0,0,0,0,0,1]) (by kernel_rfl) (by kernel_rfl) (by kernel_rfl) (by kernel_rfl)
def zOx:List Nat:=[1,1]
def zPo:List Nat:=[2,2]
def zPx:List Nat:=[1,1,0,0,0,0,0,0,0,0,0,0,0,0,0,0,0,0]
def zQK:List Nat:=[1,1,0,0,0,0,0,0,0,0,0,0,0,0,0,0,0,0,1]
def KMoment (a:Value):Prop:=∃X:List Value,a=.agg X.toArray/\ShL zOx X
def KJoint (a:Value):Prop:=∃X:List Value,a=.agg X.toArray/\ShL zPo X
def KOwing (a:Value):Prop:=∃X:List Value,a=.agg X.toArray/\ShL zPx X
def KState (a:Value):Prop:=∃X:List Value,a=.agg X.toArray/\ShL zQK X
def KInt (a:Value):Prop:=∃x,a=.int .i64 x
def zS2 (a:Value):Prop:=∃x,a=.int .u16 x
def KStr (a:Value):Prop:=∃x,a=.string x
theorem zI8:vJ 438 KMoment:=vJ.flat Tryz.underlying438 zQM (by kernel_rfl) (fun _ _=>rfl)
theorem zOe:vJ 445 KJoint:=vJ.flat Tryz.underlying445 zPp (by kernel_rfl) (fun _ _=>rfl)
theorem zPI:vJ 443 KOwing:=vJ.flat Tryz.underlying443 zPz (by kernel_rfl) (fun _ _=>rfl)
theorem zIo:vJ 424 KState:=vJ.flat Tryz.underlying424 zPl (by kernel_rfl) (fun _ _=>rfl)
theorem zNP:vJ 3 KInt:=vJ.int Tryz.underlying3
theorem zTP:vJ 25 zS2:=vJ.int Tryz.underlying25
theorem zQP:vJ 9 KStr:=vJ.str Tryz.underlying9
theorem xK (t:TypeId) (W:World):(Instr.makeMap t none).run rA W=.ok (.map (some W.heap.size)) (W.alloc (.map #[] 0)):=by
 simp[Instr.makeMap,go_sem,Result.andThen]
