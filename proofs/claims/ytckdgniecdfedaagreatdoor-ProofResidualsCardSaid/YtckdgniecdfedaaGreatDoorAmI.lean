/- Types without pointers. -/
import Derived.Test.YtckdgniecdfedaaGreatDoorAmB
import Derived.ChangeKeysEq
import Derived.MapKept
namespace Go.AM
def leavesF (P:Program) (rec:TypeId→Option (List Nat)):List Field→Nat→Option (List Nat)
 |[],_=>some []
 |fd::fs,off=>match rec fd.type with
  |some l=>if fd.name≠ "_" ∧fd.offset=off∧P.cellsOf fd.type=l.length then(leavesF P rec fs (off+l.length)).map (l++ ·) else none
  |none=>none
def leaves (P:Program):Nat→TypeId→Option (List Nat)
 |0,_=>none
 |d+1,t=>match P.underlying t with
  |some .bool=>some [0]
  |some (.int _)=>some [1]
  |some .string=>some [2]
  |some (.struct fs)=>if P.stoodInHeld t then none else leavesF P (leaves P d) fs.toList 0
  |some (.array n e)=>match leaves P d e with
   |some l=>if P.cellsOf e=l.length∧(P.info? e).isSome then some (List.replicate n l).flatten else none
   |none=>none
  |_=>none
def clsOf:AV→Nat
 | .bool _=>0
 | .int _ _=>1
 | .str _=>2
 |_=>3
def isAggT (P:Program) (t:TypeId):Bool:=match P.underlying t with
 |some (.struct _)=>true
 |some (.array _ _)=>true
 |_=>false
def shapeV (P:Program) (t:TypeId) (X:List Value):Value:=if isAggT P t then .agg X.toArray else X.headD default
theorem sameCls_ok {x z:AV} (h:sameCls x z=true):clsOf x=clsOf z:=by
 unfold sameCls at h
 split at h<;>first|rfl|cases h
theorem fitsB_ok:∀ {xs zs:List AV},fitsB xs zs=true→xs.map clsOf=zs.map clsOf
 |[],[],_=>rfl
 |[],_::_,h=>by cases (show false=true from h)
 |x::xs,[],h=>by cases (show false=true from h)
 |x::xs,z::zs,h=>by
  have h':iteB (sameCls x z) (fitsB xs zs) false=true:=h
  rw[iteB_eq] at h'
  split at h'
  ·rename_i hs
   simp[sameCls_ok hs,fitsB_ok h']
  ·cases h'
theorem cellsEq_app:∀ {xs ys xs' ys':List AV} {f:Bool→R},xs.length=ys.length→
  cellsEq (xs++xs') (ys++ys') f=cellsEq xs ys (fun b=>Bool.rec (motive:=fun _=>R) (f false) (cellsEq xs' ys' f) b)
 |[],[],_,_,_,_=>rfl
 |[],_::_,_,_,_,h=>by simp at h
 |_::_,[],_,_,_,h=>by simp at h
 |x::xs,y::ys,xs',ys',f,h=>by
  show cellEq x y (fun b=>Bool.rec (motive:=fun _=>R) (f false) (cellsEq (xs++xs') (ys++ys') f) b)=cellEq x y (fun b=>Bool.rec (motive:=fun _=>R) (f false) (cellsEq xs ys _) b)
  rw[cellsEq_app (by simpa using h)]
section
variable {P:Program}
def EqL (P:Program) (dd:Nat) (t:TypeId) (ls:List Nat):Prop:=
 ∀(w:World) (ι:Inj) (xs ys:List AV) (X Y:List Value) (f:Bool→R),xs.map clsOf=ls→ys.map clsOf=ls→concL ι xs=some X→concL ι ys=some Y→cellsEq xs ys f=.ok→
  ∃b,f b=.ok∧(Op.equalIn dd t (shapeV P t X) (shapeV P t Y)).run P w=.ok b w
theorem concL_split {ι:Inj}:∀ {xs xs':List AV} {X:List Value},concL ι (xs++xs')=some X→∃A B,X=A++B∧concL ι xs=some A∧concL ι xs'=some B
 |[],xs',X,h=>⟨[],X,rfl,rfl,h⟩
 |x::xs,xs',X,h=>by
  simp only[List.cons_append,concL,Option.bind_eq_some_iff,Option.map_eq_some_iff] at h
  obtain⟨a,ha,l,hl,rfl⟩:=h
  obtain⟨A,B,rfl,h1,h2⟩:=concL_split hl
  exact⟨a::A,B,rfl,by simp[concL,ha,h1],h2⟩
theorem map_split {β:Type} {g:AV→β}:∀ {l l':List β} {xs:List AV},xs.map g=l++l'→∃a b,xs=a++b∧a.map g=l∧b.map g=l'
 |[],l',xs,h=>⟨[],xs,rfl,rfl,h⟩
 |c::l,l',[],h=>by simp at h
 |c::l,l',x::xs,h=>by
  simp only[List.map_cons,List.cons_append,List.cons.injEq] at h
  obtain⟨a,b,rfl,h1,h2⟩:=map_split h.2
  exact⟨x::a,b,rfl,by simp[h.1,h1],h2⟩
theorem run_part_shape {t:TypeId} {A B C:List Value} {off:Nat} {w:World} {ls:List Nat} {m:Nat} (hl:leaves P m t=some ls) (hs:P.cellsOf t=ls.length) (hB:B.length=ls.length) (ho:A.length=off):
  (part t (A++B++C).toArray off).run P w=.ok (shapeV P t B) w:=by
 cases m with
 |zero=>simp[leaves] at hl
 |succ m=>
  cases hu:P.underlying t with
  |none=>simp[leaves,hu] at hl
  |some d=>
   obtain⟨i,hi⟩:=info_of_underlying hu
   have agg:isAggT P t=true→(isAgg t).run P w=.ok true w→(part t (A++B++C).toArray off).run P w=.ok (shapeV P t B) w:=fun h1 h2=>by
    simp only[part,Sem.run_bind,h2,Result.andThen_ok,if_true,run_sizeOf w hi,Sem.run_pure,shapeV,h1]
    congr 2
    apply Array.toList_inj.1
    rw[Array.toList_extract]
    simp only[List.extract,hs,←hB,←ho]
    simp
   have plain:∀c,ls=[c]→isAggT P t=false→(isAgg t).run P w=.ok false w→(part t (A++B++C).toArray off).run P w=.ok (shapeV P t B) w:=fun c hc h1 h2=>by
    subst hc
    match B,hB with
    |[v],_=>
     have:(A++[v]++C).toArray[off]? =some v:=by
      subst ho
      simp
     simp only[part,Sem.run_bind,h2,Result.andThen_ok,Bool.false_eq_true,if_false,this,Sem.run_pure,shapeV,h1]
     rfl
   cases d
   case bool=>exact plain 0 (by simpa[leaves,hu] using hl.symm) (by simp[isAggT,hu]) (by simp[isAgg,run_underlying hu])
   case int q=>exact plain 1 (by simpa[leaves,hu] using hl.symm) (by simp[isAggT,hu]) (by simp[isAgg,run_underlying hu])
   case string=>exact plain 2 (by simpa[leaves,hu] using hl.symm) (by simp[isAggT,hu]) (by simp[isAgg,run_underlying hu])
   case struct fs=>exact agg (by simp[isAggT,hu]) (by simp[isAgg,run_underlying hu])
   case array n e=>exact agg (by simp[isAggT,hu]) (by simp[isAgg,run_underlying hu])
   all_goals (simp[leaves,hu] at hl;done)
theorem eqFields_L {dd m:Nat} (ih:∀t ls,leaves P m t=some ls→EqL P dd t ls):∀(fs:List Field) (off:Nat) (ls:List Nat),leavesF P (leaves P m) fs off=some ls→
  ∀(w:World) (ι:Inj) (xs ys:List AV) (X Y A B:List Value) (f:Bool→R),A.length=off→B.length=off→xs.map clsOf=ls→ys.map clsOf=ls→concL ι xs=some X→concL ι ys=some Y→cellsEq xs ys f=.ok→
   ∃b,f b=.ok∧(Op.eqFields dd (A++X).toArray (B++Y).toArray fs).run P w=.ok b w
 |[],off,ls,hl,w,ι,xs,ys,X,Y,A,B,f,hA,hB,hx,hy,hX,hY,h=>by
  simp[leavesF] at hl
  subst hl
  simp at hx hy
  subst hx;subst hy
  exact⟨true,h,by simp[Op.eqFields]⟩
 |fd::fs,off,ls,hl,w,ι,xs,ys,X,Y,A,B,f,hA,hB,hx,hy,hX,hY,h=>by
  unfold leavesF at hl
  split at hl
  ·rename_i l hl1
   split at hl
   ·rename_i hc
    obtain⟨hn,ho,hs⟩:=hc
    obtain⟨l',hl2,rfl⟩:=Option.map_eq_some_iff.1 hl
    obtain⟨x1,x2,rfl,hx1,hx2⟩:=map_split hx
    obtain⟨y1,y2,rfl,hy1,hy2⟩:=map_split hy
    obtain⟨X1,X2,rfl,hX1,hX2⟩:=concL_split hX
    obtain⟨Y1,Y2,rfl,hY1,hY2⟩:=concL_split hY
    have lx:x1.length=l.length:=by simpa using congrArg List.length hx1
    have ly:y1.length=l.length:=by simpa using congrArg List.length hy1
    have lX:X1.length=l.length:=by rw[concL_length hX1,lx]
    have lY:Y1.length=l.length:=by rw[concL_length hY1,ly]
    rw[cellsEq_app (by rw[lx,ly])] at h
    obtain⟨b,h1,h2⟩:=ih _ _ hl1 w ι x1 y1 X1 Y1 _ hx1 hy1 hX1 hY1 h
    have p1:=run_part_shape (A:=A) (B:=X1) (C:=X2) (off:=fd.offset) (w:=w) hl1 hs lX (by rw[hA,ho])
    have p2:=run_part_shape (A:=B) (B:=Y1) (C:=Y2) (off:=fd.offset) (w:=w) hl1 hs lY (by rw[hB,ho])
    rw[List.append_assoc] at p1 p2
    simp only[Op.eqFields,hn,ne_eq,not_false_eq_true,if_true,Sem.run_bind,p1,p2,h2,Result.andThen_ok]
    cases b with
    |false=>exact⟨false,h1,by simp⟩
    |true=>
     obtain⟨b',h3,h4⟩:=eqFields_L ih fs _ _ hl2 w ι x2 y2 X2 Y2 (A++X1) (B++Y1) f (by simp[hA,lX]) (by simp[hB,lY]) hx2 hy2 hX2 hY2 h1
     refine⟨b',h3,?_⟩
     simpa[List.append_assoc] using h4
   ·cases hl
  ·cases hl
theorem eqItems_L {dd:Nat} {e:TypeId} {l:List Nat} {m:Nat} (hl:leaves P m e=some l) (hs:P.cellsOf e=l.length) (ih:EqL P dd e l):∀(n i:Nat),
  ∀(w:World) (ι:Inj) (xs ys:List AV) (X Y A B:List Value) (f:Bool→R),A.length=i*l.length→B.length=i*l.length→xs.map clsOf=(List.replicate n l).flatten→ys.map clsOf=(List.replicate n l).flatten→concL ι xs=some X→concL ι ys=some Y→cellsEq xs ys f=.ok→
   ∃b,f b=.ok∧(Op.eqItems dd e (P.cellsOf e) (A++X).toArray (B++Y).toArray (List.range' i n)).run P w=.ok b w
 |0,i,w,ι,xs,ys,X,Y,A,B,f,hA,hB,hx,hy,hX,hY,h=>by
  simp at hx hy
  subst hx;subst hy
  exact⟨true,h,by simp[Op.eqItems]⟩
 |n+1,i,w,ι,xs,ys,X,Y,A,B,f,hA,hB,hx,hy,hX,hY,h=>by
  rw[List.replicate_succ,List.flatten_cons] at hx hy
  obtain⟨x1,x2,rfl,hx1,hx2⟩:=map_split hx
  obtain⟨y1,y2,rfl,hy1,hy2⟩:=map_split hy
  obtain⟨X1,X2,rfl,hX1,hX2⟩:=concL_split hX
  obtain⟨Y1,Y2,rfl,hY1,hY2⟩:=concL_split hY
  have lx:x1.length=l.length:=by simpa using congrArg List.length hx1
  have ly:y1.length=l.length:=by simpa using congrArg List.length hy1
  have lX:X1.length=l.length:=by rw[concL_length hX1,lx]
  have lY:Y1.length=l.length:=by rw[concL_length hY1,ly]
  rw[cellsEq_app (by rw[lx,ly])] at h
  obtain⟨b,h1,h2⟩:=ih w ι x1 y1 X1 Y1 _ hx1 hy1 hX1 hY1 h
  have p1:=run_part_shape (A:=A) (B:=X1) (C:=X2) (off:=i*P.cellsOf e) (w:=w) hl hs lX (by rw[hA,hs])
  have p2:=run_part_shape (A:=B) (B:=Y1) (C:=Y2) (off:=i*P.cellsOf e) (w:=w) hl hs lY (by rw[hB,hs])
  rw[List.append_assoc] at p1 p2
  simp only[List.range'_succ,Op.eqItems,Sem.run_bind,p1,p2,h2,Result.andThen_ok]
  cases b with
  |false=>exact⟨false,h1,by simp⟩
  |true=>
   obtain⟨b',h3,h4⟩:=eqItems_L hl hs ih n (i+1) w ι x2 y2 X2 Y2 (A++X1) (B++Y1) f (by simp[hA,lX,Nat.add_mul]) (by simp[hB,lY,Nat.add_mul]) hx2 hy2 hX2 hY2 h1
   refine⟨b',h3,?_⟩
   simpa[List.append_assoc] using h4
theorem run_eqStruct (w:World) (d:Nat) {t:TypeId} {fs:Array Field} (xs ys:Array Value) (hu:P.underlying t=some (.struct fs)) (hst:P.stoodInHeld t=false):
  (Op.equalIn (d+1) t (.agg xs) (.agg ys)).run P w=(Op.eqFields d xs ys fs.toList).run P w:=by
 have hfs:P.fieldsOf t=fs:=by simp[Program.fieldsOf,hu]
 have:=run_equalIn_struct w d t xs ys (by rw[hfs];exact hu) hst
 rw[hfs] at this
 exact this
theorem one_of {ι:Inj} {xs:List AV} {X:List Value} {c:Nat} (h:xs.map clsOf=[c]) (hX:concL ι xs=some X):∃x V,xs=[x]∧clsOf x=c∧conc ι x=some V∧X=[V]:=by
 match xs,h with
 |[x],h=>
  simp only[concL,Option.bind_eq_some_iff,Option.map_eq_some_iff] at hX
  obtain⟨V,hV,l,hl,rfl⟩:=hX
  cases hl
  exact⟨x,V,rfl,by simpa using h,hV,rfl⟩
theorem cls_bool {a:AV} (h:clsOf a=0):∃b,a=.bool b:=by cases a<;>simp[clsOf] at h ⊢
theorem cls_int {a:AV} (h:clsOf a=1):∃k n,a=.int k n:=by cases a<;>simp[clsOf] at h ⊢
theorem cls_str {a:AV} (h:clsOf a=2):∃s,a=.str s:=by cases a<;>simp[clsOf] at h ⊢
theorem eq_L (d:Nat):∀(m:Nat) (t:TypeId) (ls:List Nat),leaves P m t=some ls→EqL P (d+m) t ls
 |0,t,ls,h=>by simp[leaves] at h
 |m+1,t,ls,hl=>by
  intro w ι xs ys X Y f hx hy hX hY h
  have hl0:=hl
  cases hu:P.underlying t with
  |none=>simp[leaves,hu] at hl
  |some k=>
   have hd:d+(m+1)=(d+m)+1:=rfl
   cases k
   case bool=>
    simp[leaves,hu] at hl;subst hl
    obtain⟨x,V,rfl,hc,hV,rfl⟩:=one_of hx hX
    obtain⟨y,V',rfl,hc',hV',rfl⟩:=one_of hy hY
    obtain⟨a,rfl⟩:=cls_bool hc
    obtain⟨b,rfl⟩:=cls_bool hc'
    simp[conc] at hV hV';subst hV;subst hV'
    refine⟨a==b,?_,by simp[shapeV,isAggT,hu,Op.equalIn,run_underlying hu]⟩
    have h':f (iteB a b (Bool.not b))=.ok∨True:=.inr trivial
    revert h
    show cellEq (.bool a) (.bool b) (fun r=>Bool.rec (motive:=fun _=>R) (f false) (f true) r)=.ok→_
    cases a<;>cases b<;>exact id
   case int q=>
    simp[leaves,hu] at hl;subst hl
    obtain⟨x,V,rfl,hc,hV,rfl⟩:=one_of hx hX
    obtain⟨y,V',rfl,hc',hV',rfl⟩:=one_of hy hY
    obtain⟨a,n,rfl⟩:=cls_int hc
    obtain⟨b,n',rfl⟩:=cls_int hc'
    simp[conc] at hV hV';subst hV;subst hV'
    obtain⟨h1,h2⟩:=ifB_ok (h:ifB 0 (kindEq a b) (Bool.rec (motive:=fun _=>R) (f false) (f true) (intEq n n'))=.ok)
    obtain rfl:=kindEq_ok h1
    refine⟨n==n',?_,by simp[shapeV,isAggT,hu,Op.equalIn,run_underlying hu]⟩
    rw[intEq_ok] at h2
    cases hb:n==n'<;>rw[hb] at h2<;>exact h2
   case string=>
    simp[leaves,hu] at hl;subst hl
    obtain⟨x,V,rfl,hc,hV,rfl⟩:=one_of hx hX
    obtain⟨y,V',rfl,hc',hV',rfl⟩:=one_of hy hY
    obtain⟨a,rfl⟩:=cls_str hc
    obtain⟨b,rfl⟩:=cls_str hc'
    simp[conc] at hV hV';subst hV;subst hV'
    have h2:(Bool.rec (motive:=fun _=>R) (f false) (f true) (strEq a b))=.ok:=h
    rw[strEq_ok] at h2
    refine⟨a==b,?_,?_⟩
    ·cases hb:a==b<;>rw[hb] at h2<;>exact h2
    ·simp only[shapeV,isAggT,hu,Op.equalIn,Sem.run_bind,run_underlying hu,Result.andThen_ok,List.headD_cons,Bool.false_eq_true,if_false,Sem.run_pure]
     congr 1
     by_cases hab:a=b
     ·subst hab
      rw[show(a==a)=true from beq_self_eq_true a]
      exact(MapKept.bytes_beq _ _).2 rfl
     ·have h1:¬((⟨a.toArray⟩:ByteArray)==⟨b.toArray⟩)=true:=fun h=>hab (by have:=(MapKept.bytes_beq _ _).1 h;injection this with h;exact List.toArray_inj h)
      rw[beq_eq_false_iff_ne.2 hab]
      exact Bool.eq_false_iff.2 h1
   case struct fs=>
    simp only[leaves,hu] at hl
    split at hl
    ·cases hl
    ·rename_i hst
     have hst':P.stoodInHeld t=false:=by simpa using hst
     obtain⟨b,h1,h2⟩:=eqFields_L (eq_L d m) fs.toList 0 ls hl w ι xs ys X Y [] [] f rfl rfl hx hy hX hY h
     refine⟨b,h1,?_⟩
     simp only[shapeV,isAggT,hu,if_true]
     rw[hd,run_eqStruct w (d+m) _ _ hu hst']
     exact h2
   case array n e=>
    simp only[leaves,hu] at hl
    split at hl
    ·rename_i l hl1
     split at hl
     ·rename_i hc
      obtain⟨i,hi⟩:=Option.isSome_iff_exists.1 hc.2
      injection hl with hl;subst hl
      obtain⟨b,h1,h2⟩:=eqItems_L hl1 hc.1 (eq_L d m e l hl1) n 0 w ι xs ys X Y [] [] f (by simp) (by simp) hx hy hX hY h
      refine⟨b,h1,?_⟩
      simp only[shapeV,isAggT,hu,if_true]
      rw[hd,run_equalIn_array w (d+m) _ _ hu hi,List.range_eq_range']
      exact h2
     ·cases hl
    ·cases hl
   all_goals (simp[leaves,hu] at hl;done)
def KeyL (P:Program) (em:Bool) (dd:Nat) (t:TypeId) (n:Nat):Prop:=∀(w:World) (X:List Value),X.length=n→(Instr.checkKey em dd t (shapeV P t X)).run P w=.ok () w
theorem keyFields_L {em:Bool} {dd m:Nat} (ih:∀t ls,leaves P m t=some ls→KeyL P em dd t ls.length) (w:World):∀(fs:List Field) (off:Nat) (ls:List Nat),leavesF P (leaves P m) fs off=some ls→
  ∀(A X:List Value),A.length=off→X.length=ls.length→
   (forIn fs PUnit.unit (fun f _=>(do
     if f.name≠ "_" then Instr.checkKey em dd f.type (← part f.type (A++X).toArray f.offset)
     pure (ForInStep.yield PUnit.unit):Sem (ForInStep PUnit)))).run P w=.ok PUnit.unit w
 |[],off,ls,hl,A,X,hA,hX=>by simp
 |fd::fs,off,ls,hl,A,X,hA,hX=>by
  unfold leavesF at hl
  split at hl
  ·rename_i l hl1
   split at hl
   ·rename_i hc
    obtain⟨hn,ho,hs⟩:=hc
    obtain⟨l',hl2,rfl⟩:=Option.map_eq_some_iff.1 hl
    have hX':(X.take l.length).length=l.length:=by simp at hX ⊢;omega
    have p1:=run_part_shape (A:=A) (B:=X.take l.length) (C:=X.drop l.length) (off:=fd.offset) (w:=w) hl1 hs hX' (by rw[hA,ho])
    rw[List.append_assoc,List.take_append_drop] at p1
    have p2:=ih _ _ hl1 w _ hX'
    simp only[List.forIn_cons,Sem.run_bind,hn,ne_eq,not_false_eq_true,if_true,Result.andThen_ok,p1,p2,Sem.run_pure]
    have:=keyFields_L ih w fs _ _ hl2 (A++X.take l.length) (X.drop l.length) (by simp[hA] at hX' ⊢;omega) (by simp at hX ⊢;omega)
    rw[List.append_assoc,List.take_append_drop] at this
    simpa using this
   ·cases hl
  ·cases hl
theorem keyItems_L {em:Bool} {dd m:Nat} {e:TypeId} {l:List Nat} {i:TypeInfo} (hi:P.info? e=some i) (hl:leaves P m e=some l) (hs:P.cellsOf e=l.length) (ih:KeyL P em dd e l.length) (w:World):∀(n j:Nat)
  (A X:List Value),A.length=j*l.length→X.length=n*l.length→
   (forIn (List.range' j n) PUnit.unit (fun i _=>(do
     Instr.checkKey em dd e (← part e (A++X).toArray (i*(← sizeOf e)))
     pure (ForInStep.yield PUnit.unit):Sem (ForInStep PUnit)))).run P w=.ok PUnit.unit w
 |0,j,A,X,hA,hX=>by simp
 |n+1,j,A,X,hA,hX=>by
  have hX':(X.take l.length).length=l.length:=by simp[Nat.add_mul] at hX ⊢;omega
  have p1:=run_part_shape (A:=A) (B:=X.take l.length) (C:=X.drop l.length) (off:=j*P.cellsOf e) (w:=w) hl hs hX' (by rw[hA,hs])
  rw[List.append_assoc,List.take_append_drop] at p1
  have p2:=ih w _ hX'
  simp only[List.range'_succ,List.forIn_cons,Sem.run_bind,Result.andThen_ok,run_sizeOf w hi,p1,p2,Sem.run_pure]
  have:=keyItems_L hi hl hs ih w n (j+1) (A++X.take l.length) (X.drop l.length) (by simp[hA,Nat.add_mul] at hX' ⊢;omega) (by simp[Nat.add_mul] at hX ⊢;omega)
  rw[List.append_assoc,List.take_append_drop] at this
  simpa using this
theorem Result.andThen_of {r:Result PUnit} {w:World} (h:r=.ok PUnit.unit w):(r.andThen fun _ w'=>(pure ():Sem Unit).run P w')=.ok () w:=by
 subst h;rfl
theorem key_L (em:Bool) (d:Nat):∀(m:Nat) (t:TypeId) (ls:List Nat),leaves P m t=some ls→KeyL P em (d+m) t ls.length
 |0,t,ls,h=>by simp[leaves] at h
 |m+1,t,ls,hl=>by
  intro w X hX
  cases hu:P.underlying t with
  |none=>simp[leaves,hu] at hl
  |some k=>
   have hd:d+(m+1)=(d+m)+1:=rfl
   cases k
   case bool=>simp[Instr.checkKey,run_underlying hu]
   case int q=>simp[Instr.checkKey,run_underlying hu]
   case string=>simp[Instr.checkKey,run_underlying hu]
   case struct fs=>
    simp only[leaves,hu] at hl
    split at hl
    ·cases hl
    ·have:=keyFields_L (em:=em) (dd:=d+m) (key_L em d m) w fs.toList 0 ls hl [] X rfl hX
     simp only[shapeV,isAggT,hu,if_true,Instr.checkKey,Sem.run_bind,run_underlying hu,Result.andThen_ok]
     rw[←Array.forIn_toList]
     simp only[List.nil_append] at this
     exact Result.andThen_of this
   case array n e=>
    simp only[leaves,hu] at hl
    split at hl
    ·rename_i l hl1
     split at hl
     ·rename_i hc
      obtain⟨i,hi⟩:=Option.isSome_iff_exists.1 hc.2
      injection hl with hl;subst hl
      have:=keyItems_L (em:=em) (dd:=d+m) hi hl1 hc.1 (key_L em d m e l hl1) w n 0 [] X (by simp) (by simpa using hX)
      simp only[shapeV,isAggT,hu,if_true,Instr.checkKey,Sem.run_bind,run_underlying hu,Result.andThen_ok]
      simp only[Std.Legacy.Range.forIn_eq_forIn_range',Std.Legacy.Range.size,Nat.sub_zero,Nat.add_one_sub_one,Nat.div_one]
      simp only[List.nil_append] at this
      exact Result.andThen_of this
     ·cases hl
    ·cases hl
   all_goals (simp[leaves,hu] at hl;done)
theorem flat_of {t:TypeId} {ls:List Nat} (hg:P.eqGuardType P.depth t=false) (hl:leaves P 8 t=some ls) (ha:isAggT P t=true) (hz:(zeroAV P t).map (fun z=>z.cells.map clsOf)=some ls):Flat P t:=by
 have hz':∀z,zeroAV P t=some z→z.cells.map clsOf=ls:=fun z h=>by rw[h] at hz;simpa using hz
 have hs:∀X,shapeV P t X=.agg X.toArray:=fun X=>by simp[shapeV,ha]
 refine⟨hg,fun ι xs ys X Y f w z h1 hX hY hx hy h=>?_,fun e ι xs X w z h1 hX hx=>?_⟩
 ·have:=eq_L (P:=P) 9992 8 t ls hl w ι xs ys X Y f (by rw[fitsB_ok hx,hz' z h1]) (by rw[fitsB_ok hy,hz' z h1]) hX hY h
  rw[hs,hs] at this
  exact this
 ·have:=key_L (P:=P) e 9992 8 t ls hl w X (by rw[concL_length hX,←hz' z h1,←fitsB_ok hx];simp)
  rw[hs] at this
  exact this
end
end Go.AM
