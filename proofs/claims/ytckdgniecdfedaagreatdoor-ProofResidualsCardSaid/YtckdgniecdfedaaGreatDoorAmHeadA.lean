/- The start of head. -/
import Derived.Test.YtckdgniecdfedaaGreatDoorAmSnap
import Derived.Test.YtckdgniecdfedaaGreatDoorAmI
import Derived.ProofKit
import Derived.OpenShut
import Derived.Lib.LaidU8
section
open Go Go.AM Go.Proofs Go.Proofs.YtckdgniecdfedaaGreatDoor
namespace Go.AM
theorem numB:(Tryz.prog.funcs.toList.all fun fn=>!(fn.name== "runtime.NumGoroutine"))=true:=by kernel_rfl
theorem numOk (f:FuncId) (fn:Func) (h:Tryz.prog.funcs[f]? =some fn):fn.name≠ "runtime.NumGoroutine" :=by
 have:=List.all_eq_true.1 numB fn (by simpa using Array.mem_of_getElem? h)
 simpa using this
theorem mixedOk:Tryz.prog.follows .mixedOrders=true:=by kernel_rfl
def headB (p:Program):Bool:=match p.funcs[8]? with
 |some fn=>(match fn.body with|some b=>rowB 18 b&&Nat.beq fn.ntmps 228|none=>false)
 |none=>false
theorem headOk:headB Tryz.prog=true:=by kernel_rfl
theorem head_fn:∃fn b,Tryz.prog.funcs[8]? =some fn∧fn.body=some b∧rowB 18 b=true∧fn.ntmps=228:=by
 have h:=headOk
 unfold headB at h
 split at h
 ·rename_i fn hf
  split at h
  ·rename_i b hb
   simp only[Bool.and_eq_true] at h
   exact⟨fn,b,hf,hb,h.1,Nat.eq_of_beq_eq_true h.2⟩
  ·cases h
 ·cases h
end Go.AM
end
section
open Go Go.AM Go.Proofs Go.Proofs.YtckdgniecdfedaaGreatDoor
namespace Go.AM
noncomputable section
def blkOfG (b:Nat):Blk:=(globs.lookup b).getD (.map [] 0)
def t0:T Blk:=.node (.node (.node (.leaf 0 (blkOfG 0)) (.leaf 4 (blkOfG 4))) (.node (.leaf 2 (blkOfG 2)) (.leaf 6 (blkOfG 6)))) (.node (.node (.nil 0) (.leaf 5 (blkOfG 5))) (.node (.leaf 3 (blkOfG 3)) (.leaf 7 (blkOfG 7))))
theorem t0_has:∀b x,(b,x)∈globs→t0.find b b=some x:=fun b x h=>by
 simp only[globs,List.mem_cons,Prod.mk.injEq,List.not_mem_nil,or_false] at h
 rcases h with⟨rfl,rfl⟩|⟨rfl,rfl⟩|⟨rfl,rfl⟩|⟨rfl,rfl⟩|⟨rfl,rfl⟩|⟨rfl,rfl⟩|⟨rfl,rfl⟩<;>rfl
end
end Go.AM
end
section
open Go Go.AM Go.Proofs Go.Proofs.YtckdgniecdfedaaGreatDoor
namespace Go.AM
def flatKinds:List (Nat×List Nat):=[(370,[1,1,1]),(368,[1,1]),(298,[1,1]),(276,[1,0]),(263,[1,0,0,0,0,0,0,0,0,0,0,0,0,0,0,0,0,1]),(259,[1,1]),(256,[1,1,0,0,0,0,0,0,0,0,0,0,0,0,0,0,0,0,1]),(303,[1,0]),(73,[2,0,1])]
theorem flatG:(flatKinds.all fun x=>!(Tryz.prog.eqGuardType Tryz.prog.depth x.1))=true:=by kernel_rfl
theorem flatL:(flatKinds.all fun x=>leaves Tryz.prog 8 x.1==some x.2)=true:=by kernel_rfl
theorem flatA:(flatKinds.all fun x=>isAggT Tryz.prog x.1)=true:=by kernel_rfl
theorem flatZ:(flatKinds.all fun x=>(zeroAV Tryz.prog x.1).map (fun z=>z.cells.map clsOf)==some x.2)=true:=by kernel_rfl
theorem flatsOk:∀t∈flats,Flat Tryz.prog t:=fun t ht=>by
 have h:t∈flatKinds.map (·.1):=ht
 obtain⟨x,hx,rfl⟩:=List.mem_map.1 h
 exact flat_of (by simpa using List.all_eq_true.1 flatG x hx) (by simpa using List.all_eq_true.1 flatL x hx) (by simpa using List.all_eq_true.1 flatA x hx) (by simpa using List.all_eq_true.1 flatZ x hx)
end Go.AM
end
section
open Go Go.AM Go.Proofs Go.Proofs.YtckdgniecdfedaaGreatDoor Go.RowKit Go.ChangeShapes Go.WideShapes Go.ChangeAt
namespace Go.AM
section
variable {P:Program} {H:Type} {enc:TypeId×Value→H} {w:World} {base:Nat} {sp:Nat→Bool} {held:Bool} {ι:Inj}
theorem dataCells_lit (K:Nat) {d:DataW H} (h:∀l,d≠.agg l):dataCells K d=dataCell d:=by
 cases K with
 |zero=>rfl
 |succ K=>cases d<;>first|rfl|exact absurd rfl (h _)
def TrodC (P:Program) (enc:TypeId×Value→H) (w:World) (base:Nat) (sp:Nat→Bool) (held:Bool) (ι:Inj) (K:Nat) (t:TypeId):Prop:=
 ∀(fuel:Nat) (cs:List Value) (x:DataW H×List MemPlace),DataW.trod enc P w base sp held fuel t cs=some x→concL ι (dataCells K x.1)=some cs
theorem trodF {m K:Nat} (ih:∀t ls,leaves P m t=some ls→P.cellsOf t=ls.length→TrodC P enc w base sp held ι K t) {fuel:Nat} {cs:List Value}:∀(fs:List Field) (off:Nat) (ls:List Nat),leavesF P (leaves P m) fs off=some ls→
  ∀(xs:List (DataW H×List MemPlace)),xs.length=fs.length→(∀(i:Nat) (f:Field),fs[i]? =some f→DataW.trod enc P w base sp held fuel f.type ((cs.drop f.offset).take (P.cellsOf f.type))=xs[i]?)→cs.length=off+ls.length→
   concL ι ((xs.map (·.1)).flatMap (dataCells K))=some (cs.drop off)
 |[],off,ls,hl,xs,hx,_,hc=>by
  simp[leavesF] at hl
  subst hl
  have:xs=[]:=List.length_eq_zero_iff.1 hx
  subst this
  have:cs.drop off=[]:=List.drop_eq_nil_of_le (by simp at hc;omega)
  simp[this,concL]
 |f::fs,off,ls,hl,xs,hx,he,hc=>by
  unfold leavesF at hl
  split at hl
  ·rename_i l hl1
   split at hl
   ·rename_i hcond
    obtain⟨hn,ho,hs⟩:=hcond
    obtain⟨l',hl2,rfl⟩:=Option.map_eq_some_iff.1 hl
    match xs,hx with
    |x::xs,hx=>
     have h0:=he 0 f rfl
     simp only[List.getElem?_cons_zero] at h0
     have h1:=ih _ _ hl1 hs _ _ _ h0
     have h2:=trodF ih fs _ _ hl2 xs (by simpa using hx) (fun i g hg=>by have:=he (i+1) g (by simpa using hg);simpa using this) (by rw[hc,List.length_append];omega)
     rw[List.map_cons,List.flatMap_cons]
     have:=concL_append h1 h2
     rw[this,ho,hs]
     congr 1
     rw[←List.drop_drop,List.take_append_drop]
   ·cases hl
  ·cases hl
theorem trodA {m K c:Nat} {e:TypeId} (ih:TrodC P enc w base sp held ι K e) {fuel n:Nat} {cs:List Value} {xs:List (DataW H×List MemPlace)} (hx:xs.length=n) (hc:P.cellsOf e=c) (hl:cs.length=n*c)
  (he:∀(i:Nat),i<n→DataW.trod enc P w base sp held fuel e ((cs.drop (i*P.cellsOf e)).take (P.cellsOf e))=xs[i]?):
  ∀k,k≤n→concL ι (((xs.drop (n - k)).map (·.1)).flatMap (dataCells K))=some (cs.drop ((n - k)*c))
 |0,_=>by
  have h1:xs.drop (n - 0)=[]:=List.drop_eq_nil_of_le (by omega)
  have h2:cs.drop ((n - 0)*c)=[]:=List.drop_eq_nil_of_le (by rw[hl];simp)
  rw[h1,h2];rfl
 |k+1,hk=>by
  have ih2:=trodA (m:=m) ih hx hc hl he k (by omega)
  have hi:n - (k+1)<xs.length:=by omega
  have h0:=he (n - (k+1)) (by omega)
  rw[List.getElem?_eq_getElem hi] at h0
  have h1:=ih _ _ _ h0
  rw[List.drop_eq_getElem_cons hi,List.map_cons,List.flatMap_cons,show n - (k+1)+1=n - k by omega]
  rw[concL_append h1 ih2,hc]
  congr 1
  rw[show(n - k)*c=(n - (k+1))*c+c by rw[show n - k=n - (k+1)+1 by omega,Nat.add_mul,Nat.one_mul]]
  rw[←List.drop_drop,List.take_append_drop]
theorem trodC:∀(m K:Nat) (t:TypeId) (ls:List Nat),m≤K+1→leaves P m t=some ls→P.cellsOf t=ls.length→TrodC P enc w base sp held ι K t
 |0,K,t,ls,_,h,_=>by simp[leaves] at h
 |m+1,K,t,ls,hK,hl,hs=>by
  intro fuel cs x h
  cases hu:P.underlying t with
  |none=>simp[leaves,hu] at hl
  |some k=>
   cases k
   case bool=>
    obtain⟨b,rfl,rfl⟩:=DataW.trod_bool hu h
    rw[dataCells_lit K (by simp)]
    rfl
   case int q=>
    obtain⟨n,rfl,rfl,_⟩:=DataW.trod_int hu h
    rw[dataCells_lit K (by simp)]
    rfl
   case string=>
    obtain⟨s,rfl,rfl,_⟩:=DataW.trod_string hu h
    rw[dataCells_lit K (by simp)]
    simp[dataCell,concL,conc]
   case struct fs=>
    simp only[leaves,hu] at hl
    split at hl
    ·cases hl
    ·obtain⟨xs,n,_,rfl,h1,h2,h3⟩:=DataW.trod_struct hu h
     cases K with
     |zero=>
      cases m with
      |zero=>
       cases hf:fs.toList with
       |nil=>
        rw[hf] at hl
        simp[leavesF] at hl
        subst hl
        have hz:cs=[]:=List.length_eq_zero_iff.1 (by rw[h1,hs];rfl)
        subst hz
        rfl
       |cons f fs=>rw[hf] at hl;simp[leavesF,leaves] at hl
      |succ m=>omega
     |succ K=>
      have:=trodF (K:=K) (fuel:=n) (cs:=cs) (fun t ls h h'=>trodC m K t ls (by omega) h h') fs.toList 0 ls hl xs (by simpa using h2) (fun i f hf=>h3 i f (by simpa using hf)) (by rw[h1,hs];omega)
      show concL ι ((xs.map (·.1)).flatMap (dataCells K))=some cs
      simpa using this
   case array n e=>
    simp only[leaves,hu] at hl
    split at hl
    ·rename_i l hl1
     split at hl
     ·rename_i hc
      injection hl with hl;subst hl
      obtain⟨xs,mm,_,rfl,h1,h2,h3⟩:=DataW.trod_array hu h
      cases K with
      |zero=>
       cases m with
       |zero=>simp[leaves] at hl1
       |succ m=>omega
      |succ K=>
       have:=trodA (m:=m) (K:=K) (trodC m K e l (by omega) hl1 hc.1) (cs:=cs) h2 hc.1 (by rw[h1,hs];simp) h3 n (Nat.le_refl _)
       show concL ι ((xs.map (·.1)).flatMap (dataCells K))=some cs
       simpa using this
     ·cases hl
    ·cases hl
   all_goals (simp[leaves,hu] at hl;done)
end
theorem varBlk {ι:Inj} {w:World} {n:String} {g:Nat} {t:TypeId} {ls:List Nat} {d:DataW Unit} (hg:Tryz.prog.globalNamed n=some g) (ht:(Tryz.prog.globals[g]?).map (·.type)=some t)
  (hl:leaves Tryz.prog 4 t=some ls) (hs:Tryz.prog.cellsOf t=ls.length) (h:Lib.VarReads Tryz.prog w n d):BlkRel Tryz.prog ι ⟨g,0,0,0⟩ (.cells (dataCells 3 d) 0 false 3) w:=by
 obtain⟨g',t',cs,fuel,p,h1,h2,h3,h4⟩:=h
 obtain rfl:=Option.some.inj (hg.symm.trans h1)
 obtain rfl:=Option.some.inj (ht.symm.trans h2)
 have hc:=trodC (ι:=ι) 4 3 t ls (Nat.le_refl _) hl hs fuel cs.toList (d,p) h4
 simp only[World.var?,hg,Option.bind_some] at h3
 split at h3
 ·rename_i cs' e fz hh
  injection h3 with h3
  subst h3
  exact⟨cs',e,fz,_,hh,hc,fun i hi=>by simp,by simp,by simp⟩
 ·cases h3
def ι0:Inj:=fun b=>if b<8 then some ⟨b,0,0,0⟩ else none
theorem find_leaf {α:Type} {k p b:Nat} {a x:α} (h:(T.leaf k a).find p b=some x):b=k∧x=a:=by
 simp only[T.find] at h
 split at h
 ·rename_i e
  injection h with h
  exact⟨e.symm,h.symm⟩
 ·cases h
theorem find_node {α:Type} {l r:T α} {p b:Nat} {x:α} (h:(T.node l r).find p b=some x):(∃q,l.find q b=some x)∨∃q,r.find q b=some x:=by
 simp only[T.find] at h
 split at h
 ·exact .inl ⟨_,h⟩
 ·exact .inr ⟨_,h⟩
theorem find_nil {α:Type} {d p b:Nat} {x:α} (h:(T.nil d).find p b=some x):False:=by simp[T.find] at h
theorem t0_find {p b:Nat} {x:Blk} (h:t0.find p b=some x):(b=0∨b=2∨b=3∨b=4∨b=5∨b=6∨b=7)∧x=blkOfG b:=by
 unfold t0 at h
 rcases find_node h with⟨q,h⟩|⟨q,h⟩
 ·rcases find_node h with⟨q,h⟩|⟨q,h⟩
  ·rcases find_node h with⟨q,h⟩|⟨q,h⟩
   ·obtain⟨rfl,rfl⟩:=find_leaf h;exact⟨by omega,rfl⟩
   ·obtain⟨rfl,rfl⟩:=find_leaf h;exact⟨by omega,rfl⟩
  ·rcases find_node h with⟨q,h⟩|⟨q,h⟩
   ·obtain⟨rfl,rfl⟩:=find_leaf h;exact⟨by omega,rfl⟩
   ·obtain⟨rfl,rfl⟩:=find_leaf h;exact⟨by omega,rfl⟩
 ·rcases find_node h with⟨q,h⟩|⟨q,h⟩
  ·rcases find_node h with⟨q,h⟩|⟨q,h⟩
   ·exact(find_nil h).elim
   ·obtain⟨rfl,rfl⟩:=find_leaf h;exact⟨by omega,rfl⟩
  ·rcases find_node h with⟨q,h⟩|⟨q,h⟩
   ·obtain⟨rfl,rfl⟩:=find_leaf h;exact⟨by omega,rfl⟩
   ·obtain⟨rfl,rfl⟩:=find_leaf h;exact⟨by omega,rfl⟩
theorem t0_writable {p b:Nat} {x:Blk} (h:t0.find p b=some x):x.writable=false:=by
 obtain⟨h1,h2⟩:=t0_find h
 rw[h2]
 rcases h1 with rfl|rfl|rfl|rfl|rfl|rfl|rfl<;>rfl
theorem ng8':Tryz.prog.globals.size=8:=by kernel_rfl
theorem g0:Tryz.prog.globalNamed "foresight/formula.forms" =some 0:=by kernel_rfl
theorem g2:Tryz.prog.globalNamed "foresight/signal.keys" =some 2:=by kernel_rfl
theorem g3:Tryz.prog.globalNamed "unicode/utf8.first" =some 3:=by kernel_rfl
theorem g4:Tryz.prog.globalNamed "unicode/utf8.acceptRanges" =some 4:=by kernel_rfl
theorem g5:Tryz.prog.globalNamed "internal/strconv.uint64pow10" =some 5:=by kernel_rfl
theorem g6:Tryz.prog.globalNamed "math/bits.deBruijn32tab" =some 6:=by kernel_rfl
theorem g7:Tryz.prog.globalNamed "math/bits.deBruijn64tab" =some 7:=by kernel_rfl
noncomputable def varB (g:Nat):Bool:=match Tryz.prog.globals[g]? with
 |some x=>(match leaves Tryz.prog 4 x.type with
  |some ls=>Nat.beq (Tryz.prog.cellsOf x.type) ls.length
  |none=>false)
 |none=>false
theorem varB_ok:([0,2,3,4,5,6,7].all varB)=true:=by kernel_rfl
theorem varBlk' {ι:Inj} {w:World} {n:String} {g:Nat} {d:DataW Unit} (hg:Tryz.prog.globalNamed n=some g) (hb:varB g=true) (h:Lib.VarReads Tryz.prog w n d):BlkRel Tryz.prog ι ⟨g,0,0,0⟩ (.cells (dataCells 3 d) 0 false 3) w:=by
 unfold varB at hb
 split at hb
 ·rename_i x hx
  split at hb
  ·rename_i ls hl
   exact varBlk hg (t:=x.type) (by rw[hx];rfl) hl (Nat.eq_of_beq_eq_true hb) h
  ·cases hb
 ·cases hb
theorem varB_at {g:Nat} (h:g∈[0,2,3,4,5,6,7]):varB g=true:=List.all_eq_true.1 varB_ok g h
def laid7:List (String×DataW Unit):=[("math/bits.deBruijn32tab",Rows.laid_math_bits_deBruijn32tab),("math/bits.deBruijn64tab",Rows.laid_math_bits_deBruijn64tab),("internal/strconv.uint64pow10",Rows.laid_internal_strconv_uint64pow10),("unicode/utf8.acceptRanges",Rows.laid_unicode_utf8_acceptRanges),("foresight/signal.keys",Rows.laid_foresight_signal_keys),("foresight/formula.forms",Rows.laid_foresight_formula_forms),("unicode/utf8.first",Rows.laid_unicode_utf8_first)]
theorem ret_below {ι:Inj} {w:World} {e:Ending} {w':World} (h:Ret Tryz.prog ι ⟨8,t0⟩ w (fun v _=>isTrue v) e w'):e=.returned (.bool true)∧RowKit.Below w.heap.size w w':=by
 obtain⟨V,rfl,v,ι',m',h1,st,hV⟩:=h
 have h2:isTrue v=.ok:=h1
 unfold isTrue at h2
 split at h2
 ·simp[conc] at hV
  subst hV
  refine⟨rfl,st.os,st.tape,st.output,st.size,fun k hk=>st.old k hk ?_⟩
  rintro⟨b,x,p,hx,hw,_⟩
  rw[t0_writable hx] at hw;cases hw
 ·cases h2
end Go.AM
end
