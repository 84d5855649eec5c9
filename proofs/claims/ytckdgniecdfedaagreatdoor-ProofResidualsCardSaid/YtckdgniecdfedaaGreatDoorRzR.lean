/- The tables of formulas' forms and of key words, out of the laid variables. Signals, formulas and letters that come in, opened. The head of the laws in a world that was made out of the call's own. -/
import Derived.Test.YtckdgniecdfedaaGreatDoorRzQ
import Derived.Deep.Slices
import Derived.Test.YtckdgniecdfedaaGreatDoorAmHeadB
import Derived.Lay
import Derived.MakeChecks
namespace Go.Proofs.YtckdgniecdfedaaGreatDoor
section
open Go.RowKit Go.AM
def formsL:List Value:=(List.range 20).flatMap fun op=>[.int .i64 (formT op).least,.int .i64 (formT op).most,.int .i64 (formT op).val,.int .i64 (formT op).bound,.bool (formT op).named,.bool (formT op).past,.bool (formT op).future,.bool (formT op).loose]
theorem formsL_at {C:Array Value} (h:∀i,i<formsL.length→C[0+i]? =formsL[i]?) {op:Nat} (h1:1≤op) (h2:op<20):C[op*8]? =some (.int .i64 (formT op).least)∧C[op*8+1]? =some (.int .i64 (formT op).most)∧C[op*8+2]? =some (.int .i64 (formT op).val)∧C[op*8+3]? =some (.int .i64 (formT op).bound)∧
  C[op*8+4]? =some (.bool (formT op).named)∧C[op*8+5]? =some (.bool (formT op).past)∧C[op*8+6]? =some (.bool (formT op).future)∧C[op*8+7]? =some (.bool (formT op).loose):=by
 have hl:formsL.length=160:=by rfl
 have g:∀k,k<8→C[op*8+k]? =formsL[op*8+k]? :=fun k hk=>by have:=h (op*8+k) (by omega);rwa[Nat.zero_add] at this
 have g0:=g 0 (by omega)
 have g1:=g 1 (by omega)
 have g2:=g 2 (by omega)
 have g3:=g 3 (by omega)
 have g4:=g 4 (by omega)
 have g5:=g 5 (by omega)
 have g6:=g 6 (by omega)
 have g7:=g 7 (by omega)
 rw[Nat.add_zero] at g0
 rw[g0,g1,g2,g3,g4,g5,g6,g7]
 clear g g0 g1 g2 g3 g4 g5 g6 g7 h
 match op,h1,h2 with
 |1,_,_|2,_,_|3,_,_|4,_,_|5,_,_|6,_,_|7,_,_|8,_,_|9,_,_|10,_,_|11,_,_|12,_,_|13,_,_|14,_,_|15,_,_|16,_,_|17,_,_|18,_,_|19,_,_=>exact⟨rfl,rfl,rfl,rfl,rfl,rfl,rfl,rfl⟩
 |n+20,_,h=>exact absurd h (by omega)
theorem forms_of {w:World} (hL:laidMet Tryz.prog laid7 w):Forms w:=by
 obtain⟨C,e,fz,L,h1,h2,h3, -⟩:=varBlk' (ι:=ι0) g0 (varB_at (by simp)) (Lib.laidMet.reads hL (d:=Rows.laid_foresight_formula_forms) (by simp[laid7]))
 have hc:concL ι0 (dataCells 3 (Rows.laid_foresight_formula_forms:DataW Unit))=some formsL:=by kernel_rfl
 obtain rfl:formsL=L:=Option.some.inj (hc.symm.trans h2)
 intro op o1 o2
 obtain⟨k0,k1,k2,k3,k4,k5,k6,k7⟩:=formsL_at h3 o1 o2
 have hw:w.heap[0]? =some (.cells C e fz):=h1
 exact⟨(Array.getElem?_eq_some_iff.1 hw).1,by simp[World.cell?,hw,k0],by simp[World.cell?,hw,k1],by simp[World.cell?,hw,k2],by simp[World.cell?,hw,k3],by simp[World.cell?,hw,k4],by simp[World.cell?,hw,k5],by simp[World.cell?,hw,k6],by simp[World.cell?,hw,k7]⟩
theorem keys_of {w:World} (hL:laidMet Tryz.prog laid7 w):Keys w:=by
 obtain⟨C,e,fz,L,h1,h2,h3, -⟩:=varBlk' (ι:=ι0) g2 (varB_at (by simp)) (Lib.laidMet.reads hL (d:=Rows.laid_foresight_signal_keys) (by simp[laid7]))
 have hc:concL ι0 (dataCells 3 (Rows.laid_foresight_signal_keys:DataW Unit))=some ((List.range 10).map fun j=>Value.string (keyAt j)):=by kernel_rfl
 obtain rfl:=Option.some.inj (hc.symm.trans h2)
 have hw:w.heap[2]? =some (.cells C e fz):=h1
 refine⟨(Array.getElem?_eq_some_iff.1 hw).1,fun j hj=>?_⟩
 have h:=h3 j (by simpa using hj)
 rw[Nat.zero_add] at h
 simp[World.cell?,hw,h,hj]
end
section
open Go.ChangeShapes Go.WideShapes Go.ChangeAt Go.RowKit
def fieldLeaves (P:Program) (fl:TypeId→Option (List TypeId)):List Field→Nat→Option (List TypeId)
 |[],_=>some []
 |f::r,off=>if f.offset=off then(match fl f.type with
  |some ts=>if P.cellsOf f.type=ts.length then(fieldLeaves P fl r (off+ts.length)).map (ts++ ·) else none
  |none=>none) else none
def leafTypes (P:Program):Nat→TypeId→Option (List TypeId)
 |0,_=>none
 |n+1,t=>match P.underlying t with
  |some (.struct fs)=>(match fieldLeaves P (leafTypes P n) fs.toList 0 with
   |some ts=>if P.cellsOf t=ts.length then some ts else none
   |none=>none)
  |some (.array _ _)=>none
  |_=>some [t]
section
variable {H:Type} {enc:TypeId×Value→H} {P:Program} {W:World}
theorem leaf_one {fuel:Nat} {t:TypeId} {cs:List Value} {x:DataW H×List MemPlace} (hs:∀fs,P.underlying t≠some (.struct fs)) (ha:∀n e,P.underlying t≠some (.array n e))
  (h:DataW.trod enc P W 0 (fun _=>true) true fuel t cs=some x):∃v,cs=[v]:=by
 cases fuel with
 |zero=>simp[DataW.trod] at h
 |succ n=>
  unfold DataW.trod at h
  split at h<;>simp_all
theorem fields_of {n:Nat} {fl:TypeId→Option (List TypeId)} {fs:Array Field} {cs:List Value} {xs:List (DataW H×List MemPlace)} (hlen:xs.length=fs.size)
  (hx:∀(i:Nat) (f:Field),fs[i]? =some f→DataW.trod enc P W 0 (fun _=>true) true n f.type ((cs.drop f.offset).take (P.cellsOf f.type))=xs[i]?)
  (ih:∀t ts,fl t=some ts→∀cs x,DataW.trod enc P W 0 (fun _=>true) true n t cs=some x→cs.length=ts.length∧∀(k:Nat) (u:TypeId),ts[k]? =some u→∃m y v,m≤n∧cs[k]? =some v∧DataW.trod enc P W 0 (fun _=>true) true m u [v]=some y∧∀p∈y.2,p∈x.2):
  ∀(l:List Field) (i:Nat),fs.toList.drop i=l→∀off ts,fieldLeaves P fl l off=some ts→∀(k:Nat) (u:TypeId),ts[k]? =some u→
   ∃m y v,m≤n∧cs[off+k]? =some v∧DataW.trod enc P W 0 (fun _=>true) true m u [v]=some y∧∀p∈y.2,p∈xs.flatMap (·.2):=by
 intro l
 induction l with
 |nil=>
  intro i _ off ts h k u hk
  simp only[fieldLeaves,Option.some.injEq] at h
  subst h
  simp at hk
 |cons f r ihl=>
  intro i hi off ts h k u hk
  have hlt:i<fs.toList.length:=by
   rcases Nat.lt_or_ge i fs.toList.length with h|h
   ·exact h
   ·rw[List.drop_of_length_le h] at hi
    cases hi
  have hf:fs[i]? =some f:=by
   have:=congrArg List.head? hi
   simp only[List.head?_drop,List.head?_cons] at this
   simpa using this
  have hr:fs.toList.drop (i+1)=r:=by
   have:=congrArg List.tail hi
   simpa using this
  unfold fieldLeaves at h
  split at h
  ·rename_i hoff
   split at h
   ·rename_i ts0 hts
    split at h
    ·rename_i hc
     cases hrest:fieldLeaves P fl r (off+ts0.length) with
     |none=>rw[hrest] at h;cases h
     |some ts1=>
      rw[hrest] at h
      simp only[Option.map_some,Option.some.injEq] at h
      subst h
      have hxi:=hx i f hf
      have hix:i<xs.length:=by rw[hlen];simpa using hlt
      rw[List.getElem?_eq_getElem hix] at hxi
      have hmem:xs[i]∈xs:=List.getElem_mem hix
      obtain⟨hl0,hk0⟩:=ih f.type ts0 hts _ _ hxi
      by_cases hkk:k<ts0.length
      ·rw[List.getElem?_append_left hkk] at hk
       obtain⟨m,y,v,h1,h2,h3,h4⟩:=hk0 k u hk
       refine⟨m,y,v,h1,?_,h3,fun p hp=>List.mem_flatMap.2 ⟨_,hmem,h4 p hp⟩⟩
       rw[List.getElem?_take,if_pos (by omega),List.getElem?_drop,hoff] at h2
       exact h2
      ·rw[List.getElem?_append_right (by omega)] at hk
       obtain⟨m,y,v,h1,h2,h3,h4⟩:=ihl (i+1) hr _ _ hrest (k - ts0.length) u hk
       exact⟨m,y,v,h1,by rw[show off+k=off+ts0.length+(k - ts0.length) by omega];exact h2,h3,h4⟩
    ·cases h
   ·cases h
  ·cases h
theorem leaves_of:∀(n:Nat) (t:TypeId) (ts:List TypeId),leafTypes P n t=some ts→∀(fuel:Nat) (cs:List Value) (x:DataW H×List MemPlace),DataW.trod enc P W 0 (fun _=>true) true fuel t cs=some x→
  cs.length=ts.length∧∀(k:Nat) (u:TypeId),ts[k]? =some u→∃m y v,m≤fuel∧cs[k]? =some v∧DataW.trod enc P W 0 (fun _=>true) true m u [v]=some y∧∀p∈y.2,p∈x.2
 |0,_,_,h,_,_,_,_=>by cases h
 |n+1,t,ts,h,fuel,cs,x,hx=>by
  unfold leafTypes at h
  split at h
  ·rename_i fs ht
   split at h
   ·rename_i ts' hfl
    split at h
    ·rename_i hc
     simp only[Option.some.injEq] at h
     subst h
     obtain⟨xs,n',rfl,rfl,hl,hlen,hall⟩:=DataW.trod_struct ht hx
     refine⟨hl.trans hc,fun k u hk=>?_⟩
     have:=fields_of (enc:=enc) (W:=W) (fl:=leafTypes P n) hlen hall (fun t ts h cs x hx=>leaves_of n t ts h n' cs x hx) fs.toList 0 rfl 0 _ hfl k u hk
     obtain⟨m,y,v,h1,h2,h3,h4⟩:=this
     exact⟨m,y,v,by omega,by simpa using h2,h3,h4⟩
    ·cases h
   ·cases h
  ·cases h
  ·rename_i hs ha
   simp only[Option.some.injEq] at h
   subst h
   obtain⟨v,rfl⟩:=leaf_one (fun fs e=>hs fs e) (fun n e he=>ha n e he) hx
   refine⟨rfl,fun k u hk=>?_⟩
   cases k with
   |succ k=>simp at hk
   |zero=>
    simp only[List.getElem?_cons_zero,Option.some.injEq] at hk
    subst hk
    exact⟨fuel,x,v,Nat.le_refl _,rfl,hx,fun p hp=>hp⟩
theorem open_list {α:Type} {G:List Value→α→Prop} {t e:TypeId} {ts:List TypeId} (ht:P.underlying t=some (.slice e)) (hc:P.cellsOf e=ts.length) (hpos:0<ts.length) {fuel:Nat} {v:Value} {x:DataW H×List MemPlace}
  (hG:∀m cs y,m<fuel→DataW.trod enc P W 0 (fun _=>true) true m e cs=some y→(∀p∈y.2,p.block<W.heap.size)→∃s:α,G cs s)
  (hx:DataW.trod enc P W 0 (fun _=>true) true fuel t [v]=some x) (hlt:∀p∈x.2,p.block<W.heap.size):
  ∃(a:Option Addr) (c:Nat) (l:List α),v=.slice a l.length c∧l.length≤c∧l.length≤9223372036854775807∧(l≠[]→∃b off,a=some ⟨b,off,none⟩∧b<W.heap.size∧
   ∀j (h:j<l.length),∃cs,cs.length=ts.length∧(∀i,i<ts.length→W.cell? ⟨b,off+j*ts.length+i,none⟩=cs[i]?)∧G cs l[j]):=by
 rcases DataW.trod_slice ht hx with⟨hcs, -⟩|⟨a,len,cap,elems,rest,n,hfu,hcs,rfl, -,hl,hm,hel,hin, -⟩
 ·simp only[List.cons.injEq,and_true] at hcs
  exact⟨none,0,[],hcs,Nat.le_refl _,by simp,fun h=>absurd rfl h⟩
 ·simp only[List.cons.injEq,and_true] at hcs
  have hm':len≤9223372036854775807:=by have:maxLen=9223372036854775807:=rfl;omega
  rw[hc] at hin
  have each:∀j,j<len→∃(cs:List Value) (s:α),(W.cells? 0 (a.add (j*ts.length)) ts.length=some cs)∧cs.length=ts.length∧G cs s:=fun j hj=>by
   have h1:=hin j hj
   rw[List.getElem?_eq_getElem (by omega)] at h1
   obtain⟨cs,h2,h3⟩:=Option.bind_eq_some_iff.1 h1
   obtain⟨s,hs⟩:=hG n cs _ (by omega) h3 fun p hp=>hlt p (by
    refine List.mem_append_right _ (List.mem_flatMap.2 ⟨elems[j]'(by omega),List.mem_append_left _ (List.getElem_mem _),hp⟩))
   exact⟨cs,s,h2,(World.cells?_some h2).2.1,hs⟩
  by_cases h0:len=0
  ·subst h0
   exact⟨some a,cap,[],hcs,Nat.zero_le _,by simp,fun h=>absurd rfl h⟩
  have ha:a.spot=none:=by
   obtain⟨cs,s,h1,h2, -⟩:=each 0 (by omega)
   have h3:=(World.cells?_some h1).2.2 0 (by omega)
   rw[List.getElem?_eq_getElem (by omega)] at h3
   have:=World.cell?_spot h3
   simpa[Addr.add] using this
  obtain⟨b,off,spot⟩:=a
  simp only at ha
  subst ha
  have hb:b<W.heap.size:=hlt (.cell b off) (List.mem_append_left _ (MemPlace.mem_row.2 ⟨0,by rw[hc];exact Nat.mul_pos (by omega) hpos,by simp⟩))
  obtain⟨F,hF⟩:∃F:Nat→α,∀j,j<len→∃cs,W.cells? 0 ((⟨b,off,none⟩:Addr).add (j*ts.length)) ts.length=some cs∧cs.length=ts.length∧G cs (F j):=by
   obtain⟨_,s0,_⟩:=each 0 (by omega)
   classical
   refine⟨fun j=>if h:j<len then Classical.choose (Classical.choose_spec (each j h)) else s0,fun j hj=>?_⟩
   simp only[hj,dif_pos]
   exact⟨_,Classical.choose_spec (Classical.choose_spec (each j hj))⟩
  refine⟨some ⟨b,off,none⟩,cap,(List.range len).map F,by simpa using hcs,by simpa using hl,by simpa using hm',fun _=>⟨b,off,rfl,hb,fun j hj=>?_⟩⟩
  have hj':j<len:=by simpa using hj
  obtain⟨cs,h1,h2,h3⟩:=hF j hj'
  refine⟨cs,h2,fun i hi=>?_,by simpa using h3⟩
  have h4:=(World.cells?_some h1).2.2 i (by omega)
  rw[add_plain,add_plain] at h4
  exact h4
end
theorem Tryz.leaves3:leafTypes Tryz.prog 4 3=some [3]:=by kernel_rfl
theorem Tryz.leaves73:leafTypes Tryz.prog 4 73=some [9,4,3]:=by kernel_rfl
theorem Tryz.leaves48:leafTypes Tryz.prog 4 48=some [3,9,3,3,46]:=by kernel_rfl
theorem Tryz.cellsOf3:Tryz.prog.cellsOf 3=1:=by kernel_rfl
theorem Tryz.cellsOf73:Tryz.prog.cellsOf 73=3:=by kernel_rfl
theorem Tryz.cellsOf48:Tryz.prog.cellsOf 48=5:=by kernel_rfl
theorem Tryz.slice25:Tryz.prog.underlying 25=some (.slice 3):=by kernel_rfl
theorem Tryz.slice45:Tryz.prog.underlying 45=some (.slice 73):=by kernel_rfl
theorem Tryz.slice46:Tryz.prog.underlying 46=some (.slice 48):=by kernel_rfl
theorem Tryz.int3:Tryz.prog.underlying 3=some (.int .i64):=by kernel_rfl
theorem Tryz.bool4:Tryz.prog.underlying 4=some .bool:=by kernel_rfl
theorem Tryz.string9:Tryz.prog.underlying 9=some .string:=by kernel_rfl
section
variable {H:Type} {enc:TypeId×Value→H} {W:World}
theorem leaf_int {m:Nat} {v:Value} {y:DataW H×List MemPlace} (h:DataW.trod enc Tryz.prog W 0 (fun _=>true) true m 3 [v]=some y):∃z,v=.int .i64 z:=by
 obtain⟨z,e, -⟩:=DataW.trod_int Tryz.int3 h
 exact⟨z,by simpa using e⟩
theorem leaf_bool {m:Nat} {v:Value} {y:DataW H×List MemPlace} (h:DataW.trod enc Tryz.prog W 0 (fun _=>true) true m 4 [v]=some y):∃z,v=.bool z:=by
 obtain⟨z,e, -⟩:=DataW.trod_bool Tryz.bool4 h
 exact⟨z,by simpa using e⟩
theorem leaf_string {m:Nat} {v:Value} {y:DataW H×List MemPlace} (h:DataW.trod enc Tryz.prog W 0 (fun _=>true) true m 9 [v]=some y):∃s:ByteArray,v=.string s∧s.size≤9223372036854775807:=by
 obtain⟨s,e, -,hs⟩:=DataW.trod_string Tryz.string9 h
 exact⟨s,by simpa using e,hs⟩
theorem leaf_nums {m:Nat} {v:Value} {y:DataW H×List MemPlace} (h:DataW.trod enc Tryz.prog W 0 (fun _=>true) true m 25 [v]=some y) (hlt:∀p∈y.2,p.block<W.heap.size):
  ∃a c l,v=.slice a l.length c∧Nums W (.slice a l.length c) l∧l.length≤9223372036854775807:=by
 obtain⟨a,c,l,rfl, -,hl,hr⟩:=open_list (G:=fun cs (z:Int)=>cs=[.int .i64 z]) (ts:=[3]) Tryz.slice25 Tryz.cellsOf3 (by decide) (fun m cs y _ hy _=>by
  obtain⟨hlen,hk⟩:=leaves_of 4 3 [3] Tryz.leaves3 m cs y hy
  obtain⟨m0,y0,v0, -,e0,h0, -⟩:=hk 0 3 rfl
  obtain⟨z,rfl⟩:=leaf_int h0
  match cs,hlen,e0 with
  |[c0],_,e0=>exact⟨z,by simpa using e0⟩) h hlt
 refine⟨a,c,l,rfl,⟨a,c,rfl,fun h=>?_⟩,hl⟩
 obtain⟨b,off,e,hb,hc⟩:=hr h
 refine⟨b,off,e,hb,fun j hj=>?_⟩
 obtain⟨cs,_,h2,rfl⟩:=hc j hj
 have:=h2 0 (by decide)
 simp only[List.length_cons,List.length_nil,Nat.zero_add,Nat.mul_one,Nat.add_zero,List.getElem?_cons_zero] at this
 rw[this]
 simp[hj]
theorem leaf_sigs {m:Nat} {v:Value} {y:DataW H×List MemPlace} (h:DataW.trod enc Tryz.prog W 0 (fun _=>true) true m 45 [v]=some y) (hlt:∀p∈y.2,p.block<W.heap.size):
  ∃a c l,v=.slice a l.length c∧SgV W (.slice a l.length c) l:=by
 obtain⟨a,c,l,rfl, -,hl,hr⟩:=open_list (G:=fun cs (s:Sg)=>cs=[.string s.name,.bool s.input,.int .i64 s.size]∧s.name.size≤9223372036854775807) (ts:=[9,4,3]) Tryz.slice45 Tryz.cellsOf73 (by decide) (fun m cs y _ hy hp=>by
  obtain⟨hlen,hk⟩:=leaves_of 4 73 [9,4,3] Tryz.leaves73 m cs y hy
  obtain⟨m0,y0,v0, -,e0,h0, -⟩:=hk 0 9 rfl
  obtain⟨m1,y1,v1, -,e1,h1, -⟩:=hk 1 4 rfl
  obtain⟨m2,y2,v2, -,e2,h2, -⟩:=hk 2 3 rfl
  obtain⟨s,rfl,hs⟩:=leaf_string h0
  obtain⟨i,rfl⟩:=leaf_bool h1
  obtain⟨z,rfl⟩:=leaf_int h2
  match cs,hlen,e0,e1,e2 with
  |[c0,c1,c2],_,e0,e1,e2=>
   simp only[List.getElem?_cons_zero,List.getElem?_cons_succ,Option.some.injEq] at e0 e1 e2
   subst e0 e1 e2
   exact⟨⟨s,i,z⟩,rfl,hs⟩) h hlt
 refine⟨a,c,l,rfl,⟨a,c,rfl,hl,fun h=>?_⟩⟩
 obtain⟨b,off,e,hb,hc⟩:=hr h
 refine⟨b,off,e,hb,fun j hj=>?_⟩
 obtain⟨cs,_,h2,rfl,hs⟩:=hc j hj
 exact⟨h2 0 (by decide),h2 1 (by decide),h2 2 (by decide),hs⟩
structure Nd where
 op:Int
 nm:ByteArray
 val:Int
 bd:Int
 args:Fs
def Fs.ofList:List Nd→Fs
 |[]=>.nil
 |d::l=>.cons d.op d.nm d.val d.bd d.args (Fs.ofList l)
theorem Fs.ofList_len:∀l:List Nd,(Fs.ofList l).len=l.length
 |[]=>rfl
 |d::l=>by simp[Fs.ofList,Fs.len,Fs.ofList_len l]
theorem forest_at {b:Nat}:∀(l:List Nd) (off:Nat),(∀(j:Nat) (h:j<l.length),W.cell? ⟨b,off+j*5,none⟩=some (.int .i64 l[j].op)∧W.cell? ⟨b,off+j*5+1,none⟩=some (.string l[j].nm)∧l[j].nm.size≤9223372036854775807∧W.cell? ⟨b,off+j*5+2,none⟩=some (.int .i64 l[j].val)∧W.cell? ⟨b,off+j*5+3,none⟩=some (.int .i64 l[j].bd)∧
  ∃u,W.cell? ⟨b,off+j*5+4,none⟩=some u∧FV W u l[j].args)→FAt W (Fs.ofList l) b off
 |[],_,_=>trivial
 |d::l,off,h=>by
  obtain⟨c0,c1,c2,c3,c4,u,c5,hl,a,c,rfl,hc,hv⟩:=h 0 (by simp)
  simp only[Nat.zero_mul,Nat.add_zero] at c0 c1 c3 c4 c5
  refine⟨c0,c1,c2,c3,c4,hl,⟨a,c,c5,hc,hv⟩,forest_at l (off+5) fun j hj=>?_⟩
  have:=h (j+1) (by simpa using hj)
  have e:off+(j+1)*5=off+5+j*5:=by omega
  rw[e] at this
  exact this
theorem leaf_forest:∀(fuel:Nat) (v:Value) (y:DataW H×List MemPlace),DataW.trod enc Tryz.prog W 0 (fun _=>true) true fuel 46 [v]=some y→(∀p∈y.2,p.block<W.heap.size)→∃f,FV W v f:=by
 intro fuel
 induction fuel using Nat.strongRecOn with
 |_ fuel ih=>
  intro v y h hlt
  obtain⟨a,c,l,rfl,hlc,hl,hr⟩:=open_list (G:=fun cs (s:Nd)=>∃u,cs=[.int .i64 s.op,.string s.nm,.int .i64 s.val,.int .i64 s.bd,u]∧s.nm.size≤9223372036854775807∧FV W u s.args) (ts:=[3,9,3,3,46]) Tryz.slice46 Tryz.cellsOf48 (by decide) (fun m cs y hm hy hp=>by
   obtain⟨hlen,hk⟩:=leaves_of 4 48 [3,9,3,3,46] Tryz.leaves48 m cs y hy
   obtain⟨m0,y0,v0, -,e0,h0, -⟩:=hk 0 3 rfl
   obtain⟨m1,y1,v1, -,e1,h1, -⟩:=hk 1 9 rfl
   obtain⟨m2,y2,v2, -,e2,h2, -⟩:=hk 2 3 rfl
   obtain⟨m3,y3,v3, -,e3,h3, -⟩:=hk 3 3 rfl
   obtain⟨m4,y4,v4,l4,e4,h4,p4⟩:=hk 4 46 rfl
   obtain⟨z0,rfl⟩:=leaf_int h0
   obtain⟨s,rfl,hs⟩:=leaf_string h1
   obtain⟨z2,rfl⟩:=leaf_int h2
   obtain⟨z3,rfl⟩:=leaf_int h3
   obtain⟨f,hf⟩:=ih m4 (by omega) v4 y4 h4 (fun p h=>hp p (p4 p h))
   match cs,hlen,e0,e1,e2,e3,e4 with
   |[c0,c1,c2',c3,c4],_,e0,e1,e2,e3,e4=>
    simp only[List.getElem?_cons_zero,List.getElem?_cons_succ,Option.some.injEq] at e0 e1 e2 e3 e4
    subst e0 e1 e2 e3 e4
    exact⟨⟨z0,s,z2,z3,f⟩,_,rfl,hs,hf⟩) h hlt
  refine⟨Fs.ofList l,by rw[Fs.ofList_len];exact hl,a,c,by rw[Fs.ofList_len],by rw[Fs.ofList_len];exact hlc,fun h0=>?_⟩
  rw[Fs.ofList_len] at h0
  obtain⟨b,off,e,hb,hc⟩:=hr (fun e=>h0 (by rw[e];rfl))
  refine⟨b,off,e,hb,forest_at l off fun j hj=>?_⟩
  obtain⟨cs,_,h2,u,rfl,hs,hf⟩:=hc j hj
  exact⟨h2 0 (by decide),h2 1 (by decide),hs,h2 2 (by decide),h2 3 (by decide),u,h2 4 (by decide),hf⟩
theorem Tryz.struct48:∃fs,Tryz.prog.underlying 48=some (.struct fs):=by
 cases h:Tryz.prog.underlying 48 with
 |none=>exact absurd (show(Tryz.prog.underlying 48).isSome=true by kernel_rfl) (by rw[h];simp)
 |some d=>
  cases d with
  |struct fs=>exact⟨fs,rfl⟩
  |_=>exact absurd (show(match Tryz.prog.underlying 48 with|some (.struct _)=>true|_=>false)=true by kernel_rfl) (by rw[h];simp)
set_option maxRecDepth 100000 in
theorem open_formula {fs:Array Field} (hu:Tryz.prog.underlying 48=some (.struct fs)) {base:Nat} {v:Value} {d:DataW H} {p:List MemPlace} (hok:Value.okWide Tryz.prog W .any base 48 v) (h:DataW.Trod enc Tryz.prog W 0 (fun _=>true) true 48 v d p) (hlt:∀x∈p,x.block<W.heap.size):
  ∃x:ElA,v=.agg x.enc.toArray∧Rd W x:=by
 obtain⟨cs0,rfl, -⟩:=okWide_struct hu hok
 obtain⟨fuel,hf⟩:=h
 obtain⟨cs,hcs⟩:∃cs:List Value,cs0=cs.toArray:=⟨cs0.toList,by simp⟩
 subst hcs
 have hf':DataW.trod enc Tryz.prog W 0 (fun _=>true) true fuel 48 cs=some (d,p):=by simpa[Value.cells] using hf
 obtain⟨hlen,hk⟩:=leaves_of 4 48 _ Tryz.leaves48 fuel cs (d,p) hf'
 clear hf hf' hok
 obtain⟨m0,y0,v0, -,e0,h0,p0⟩:=hk 0 3 rfl
 obtain⟨m1,y1,v1, -,e1,h1,p1⟩:=hk 1 9 rfl
 obtain⟨m2,y2,v2, -,e2,h2,p2⟩:=hk 2 3 rfl
 obtain⟨m3,y3,v3, -,e3,h3,p3⟩:=hk 3 3 rfl
 obtain⟨m4,y4,v4, -,e4,h4,p4⟩:=hk 4 46 rfl
 clear hk
 obtain⟨z0,rfl⟩:=leaf_int h0
 obtain⟨s1,rfl,b1⟩:=leaf_string h1
 obtain⟨z2,rfl⟩:=leaf_int h2
 obtain⟨z3,rfl⟩:=leaf_int h3
 obtain⟨f,hl,a,c,rfl,hcap,hfa⟩:=leaf_forest m4 v4 y4 h4 (fun q hq=>hlt q (p4 q hq))
 match cs,hlen with
 |[x0,x1,x2,x3,x4],_=>
  simp only[List.getElem?_cons_succ,List.getElem?_cons_zero,Option.some.injEq] at e0 e1 e2 e3 e4
  subst e0 e1 e2 e3 e4
  exact⟨⟨z0,s1,z2,z3,f,a,c⟩,rfl,hfa,b1,hl,hcap⟩
end
end
end Go.Proofs.YtckdgniecdfedaaGreatDoor
section
namespace Go.AM
open Go.RowKit Go.Proofs Go.Proofs.YtckdgniecdfedaaGreatDoor
theorem reads_below {P:Program} {w w':World} (hB:Below w.heap.size w w') {n:String} {d:DataW Unit} (h:Lib.VarReads P w n d):Lib.VarReads P w' n d:=by
 obtain⟨g,t,cs,fuel,p,h1,h2,h3,h4⟩:=h
 refine⟨g,t,cs,fuel,p,h1,h2,?_,DataW.trod_carry _ _ _ _ h4 fun x hx=>?_⟩
 ·simp only[World.var?,h1,Option.bind_some] at h3 ⊢
  have hg:g<w.heap.size:=by
   rcases Nat.lt_or_ge g w.heap.size with h|h
   ·exact h
   ·rw[Array.getElem?_eq_none h] at h3
    cases h3
  rw[hB.block g hg]
  exact h3
 ·have hx':=DataW.trod_lt _ _ _ _ h4 x hx
  cases x with
  |cell b off=>exact World.cell?_of_block (w:=w) (w':=w') (a:=⟨b,off,none⟩) (hB.block b hx')
  |map b=>exact hB.block b hx'
theorem later_rel {w:World} (rd:∀ {n d},(n,d)∈laid7→Lib.VarReads Tryz.prog w n d):Rel Tryz.prog ι0 ⟨8,t0⟩ w:=by
 refine⟨fun b hb=>?_,fun g hg=>?_,fun b x hx=>?_,fun b c x y p q hx _ _ _ _ hw=>?_⟩
 ·simp[ι0,show¬b<8 from Nat.not_lt.2 hb]
 ·rw[ng8'] at hg
  exact⟨⟨g,0,0,0⟩,by simp[ι0,hg],rfl,rfl⟩
 ·obtain⟨hb,he⟩:=t0_find hx
  rw[he]
  rcases hb with rfl|rfl|rfl|rfl|rfl|rfl|rfl
  ·exact⟨⟨0,0,0,0⟩,rfl,varBlk' g0 (varB_at (by simp)) (rd (by simp[laid7]))⟩
  ·exact⟨⟨2,0,0,0⟩,rfl,varBlk' g2 (varB_at (by simp)) (rd (by simp[laid7]))⟩
  ·exact⟨⟨3,0,0,0⟩,rfl,varBlk' g3 (varB_at (by simp)) (rd (by simp[laid7]))⟩
  ·exact⟨⟨4,0,0,0⟩,rfl,varBlk' g4 (varB_at (by simp)) (rd (by simp[laid7]))⟩
  ·exact⟨⟨5,0,0,0⟩,rfl,varBlk' g5 (varB_at (by simp)) (rd (by simp[laid7]))⟩
  ·exact⟨⟨6,0,0,0⟩,rfl,varBlk' g6 (varB_at (by simp)) (rd (by simp[laid7]))⟩
  ·exact⟨⟨7,0,0,0⟩,rfl,varBlk' g7 (varB_at (by simp)) (rd (by simp[laid7]))⟩
 ·rw[t0_writable hx] at hw;cases hw
theorem head_later {w w':World} (h:laidMet Tryz.prog laid7 w) (hB:Below w.heap.size w w'):HeadAt w':=
 (head_calls flatsOk (later_rel fun hm=>reads_below hB (Lib.laidMet.reads h hm))).mono fun _ _ h=>ret_below h
end Go.AM
end
namespace Go.Proofs.YtckdgniecdfedaaGreatDoor
section
open Go.ChangeShapes Go.WideShapes Go.ChangeAt Go.RowKit Go.AM
theorem Tryz.own:ownKnob Tryz.prog.godebug=none:=by kernel_rfl
theorem Tryz.laidOut:laidOutB Tryz.prog=true:=by kernel_rfl
end
end Go.Proofs.YtckdgniecdfedaaGreatDoor
