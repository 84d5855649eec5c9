/- The law of residuals in plain words: the last residual's numbers end the certificate. Storing and loading a claim of 24 cells as one step. Encode at the law's two claims. -/
import Derived.Test.YtckdgniecdfedaaGreatDoorRzP
import Derived.Deep.WholeRow
namespace Go.Proofs.YtckdgniecdfedaaGreatDoor
section
open Go.RowKit Go.Sort
def Fs.sh:Fs→Prop
 | .nil=>True
 | .cons _ nm _ _ a r=>nm.size≤12∧a.sh∧r.sh
theorem Fs.sh_code:∀ {f:Fs},f.sh→f.code.length≤17*f.nodes
 | .nil,_=>by simp[Fs.code]
 | .cons op nm v b a r,h=>by
  have h1:=Fs.sh_code h.2.1
  have h2:=Fs.sh_code h.2.2
  have h3:=h.1
  have h4:nm.data.toList.length=nm.size:=Array.length_toList
  simp only[Fs.code,txt,List.length_append,List.length_cons,List.length_nil,List.length_map,Fs.nodes]
  omega
theorem sh_trC (z:Wf):∀r,gdp pN z=true→r.sh→(trC z r).sh:=by
 have e0:(⟨#[]⟩:ByteArray).size≤12:=by decide
 have is3:∀(nm:ByteArray) (v:Int) (r:Fs),pN nm v=true→r.sh→(Fs.cons 3 nm v 0 .nil r).sh:=fun nm v r h hr=>by
  unfold pN at h
  simp only[Bool.and_eq_true,decide_eq_true_eq] at h
  exact⟨nameB_size h.1,trivial,hr⟩
 induction z using Wf.ind with
 |h1=>exact fun r _ hr=>⟨e0,trivial,hr⟩
 |h2=>exact fun r _ hr=>⟨e0,trivial,hr⟩
 |h3 nm v=>exact fun r hg hr=>is3 nm v r hg hr
 |h4 nm v=>exact fun r hg hr=>⟨e0,is3 nm v .nil hg trivial,hr⟩
 |h5 k L ih=>
  intro r hg hr
  simp only[gdp,Bool.and_eq_true] at hg
  have hl:∀m:List Wf,(∀x∈m,x∈L)→(trs m).sh:=by
   intro m
   induction m with
   |nil=>exact fun _=>trivial
   |cons x m jh=>
    intro hm
    have hx:=hm x (by simp)
    exact ih x hx _ ((gdps_all pN L).1 hg.2 x hx) (jh fun y hy=>hm y (by simp[hy]))
  exact⟨e0,hl L fun _ h=>h,hr⟩
 |h6 a ia=>intro r hg hr;simp only[gdp] at hg;exact⟨e0,ia .nil hg trivial,hr⟩
 |h7 a b ia ib=>intro r hg hr;simp only[gdp,Bool.and_eq_true] at hg;exact⟨e0,ia _ hg.1 (ib .nil hg.2 trivial),hr⟩
 |h8 a b ia ib=>intro r hg hr;simp only[gdp,Bool.and_eq_true] at hg;exact⟨e0,ia _ hg.1 (ib .nil hg.2 trivial),hr⟩
 |h9 v a ia=>intro r hg hr;simp only[gdp] at hg;exact⟨e0,ia .nil hg trivial,hr⟩
 |h10 k v a b ia ib=>intro r hg hr;simp only[gdp,Bool.and_eq_true] at hg;exact⟨e0,ia _ hg.1 (ib .nil hg.2 trivial),hr⟩
theorem code_trC (z:Wf) (r:Fs):(trC z r).code=(tr z).code++r.code:=by
 obtain⟨op,nm,v,bd,a,e1,e2⟩:=trC_cons z r
 show _=(trC z .nil).code++r.code
 rw[e2,e1]
 simp[Fs.code]
theorem code_trs:∀(ys:List Wf) (y:Wf),(trs (ys++[y])).code=(trs ys).code++(tr y).code
 |[],y=>by
  show(trC y .nil).code=_
  rw[code_trC]
  simp[Fs.code,trs]
 |x::ys,y=>by
  show(trC x (trs (ys++[y]))).code=(trC x (trs ys)).code++_
  rw[code_trC,code_trC,code_trs ys y,List.append_assoc]
theorem tr_code_len {y:Wf} (h:Lo y):1≤(tr y).code.length∧(tr y).code.length≤6800:=by
 have h1:=Fs.sh_code (sh_trC y .nil h.gd trivial)
 obtain⟨op,nm,v,bd,a,e1, -⟩:=trC_cons y .nil
 have h2:=(trC_nodes y e1).1
 have h3:=h.size
 have h4:(tr y).nodes=a.nodes+1:=by
  show(trC y .nil).nodes=_
  rw[e1];simp[Fs.nodes]
 refine⟨by show 1≤(trC y .nil).code.length;rw[e1];simp[Fs.code],?_⟩
 have:(trC y .nil).nodes=(tr y).nodes:=rfl
 have:(trC y .nil).code.length=(tr y).code.length:=rfl
 omega
theorem sgs_len:∀ {l:List Sg},(∀s∈l,s.name.size≤12)→(sgs l).length≤20*l.length
 |[],_=>by simp[sgs]
 |s::l,h=>by
  have h1:=sgs_len fun t ht=>h t (List.mem_cons_of_mem _ ht)
  have h2:=h s (by simp)
  have h3:s.name.data.toList.length=s.name.size:=Array.length_toList
  simp only[sgs,Sg.code,txt,List.length_append,List.length_cons,List.length_nil,List.length_map]
  omega
open X in
structure Ends (l:List Sg) (t:Fs) (ls:List Int) (ys:List Wf) (y:Wf):Prop where
 one:(codeR l (tr y) [0] (trs [y])).length≤20000
 two:(codeR l (tr y) [] .nil).length≤20000
 pos:1≤(tr y).code.length
 len:(codeR l (tr y) [0] (trs [y])).length=(codeR l (tr y) [] .nil).length+1+(tr y).code.length
 end1:∃p,codeR l (tr y) [0] (trs [y])=p++(tr y).code
 endc:∃p,codeR l t ls (trs ys)=p++(tr y).code
open X in
theorem ends_of {l:List Sg} {t:Fs} {ls:List Int} {ys:List Wf} {y:Wf} (hv:validB l=true) (hy:Lo y) (h:ys.getLast? =some y):Ends l t ls ys y:=by
 obtain⟨l1,l2, -⟩:=valid_write hv
 have hs:=sgs_len fun s hs=>(l2 s hs).1
 obtain⟨c1,c2⟩:=tr_code_len hy
 have e1:(trs [y]).code=(tr y).code:=by have:=code_trs [] y;simpa[trs,Fs.code] using this
 obtain⟨zs,rfl⟩:∃zs,ys=zs++[y]:=by
  obtain⟨zs,e⟩:=List.getLast?_eq_some_iff.1 h
  exact⟨zs,e⟩
 refine⟨?_,?_,c1,?_,?_,?_⟩
 ·simp only[codeR,lst,e1,List.length_append,List.length_cons,List.length_nil];omega
 ·simp only[codeR,lst,Fs.code,List.length_append,List.length_cons,List.length_nil];omega
 ·simp only[codeR,lst,e1,Fs.code,List.length_append,List.length_cons,List.length_nil];omega
 ·exact⟨4::(l.length:Int)::sgs l++(tr y).code++lst [0]++[((trs [y]).len:Int)],by simp[codeR,e1]⟩
 ·exact⟨4::(l.length:Int)::sgs l++t.code++lst ls++((trs (zs++[y])).len:Int)::(trs zs).code,by simp[codeR,code_trs]⟩
def Last (l:List Sg) (ls:List Int) (t u:Fs) (N:List Int→Prop) (k:Int):Prop:=
 (u=tz∧(k=1∨k=2))∨∃ys y,u=tr y∧Lo y∧validB l=true∧ys.getLast? =some y∧(k=2∨(k=0∧N (X.codeR l t ls (trs ys))))
theorem last_of {l:List Sg} {ls:List Int} {t u:Fs} {fb:Bool} {N:List Int→Prop} {k:Int} (hls:ls≠[])
  (hfb:fb=true→∃z,t=tr z∧Fit l z∧validB l=true∧size z≤30)
  (hr:(fb=false→u=tz)∧(fb=true→∀z,t=tr z→u=trO (runO l ls (canon ordF z))))
  (h1:(∀z,fb=true→t=tr z→resO l ls z=none)→k=1∨k=2) (h2:∀z ys,fb=true→t=tr z→resO l ls z=some ys→k=2∨(k=0∧N (X.codeR l t ls (trs ys)))):Last l ls t u N k:=by
 cases fb with
 |false=>exact .inl ⟨hr.1 rfl,h1 fun z e=>absurd e (by decide)⟩
 |true=>
  obtain⟨z,rfl,hf,hv,hs⟩:=hfb rfl
  have hu:=hr.2 rfl z rfl
  rw[runO_canon hf hs hls,runO_resO] at hu
  cases hres:resO l ls z with
  |none=>
   rw[hres] at hu
   exact .inl ⟨hu,h1 fun z' _ e=>by rw[←tr_inj e];exact hres⟩
  |some ys=>
   rw[hres] at hu
   obtain⟨a1,a2, -⟩:=resO_all ls z ys hf hres
   obtain⟨y,hy⟩:∃y,ys.getLast? =some y:=by
    cases hg:ys.getLast? with
    |some y=>exact⟨y,rfl⟩
    |none=>
     rw[List.getLast?_eq_none_iff] at hg
     rw[hg] at a1
     exact absurd (List.length_eq_zero_iff.1 a1.symm) hls
   have hu':u=tr y:=by simpa[hy,trO] using hu
   exact .inr ⟨ys,y,hu',(a2 y (List.mem_of_getLast? hy)).1,hv,hy,h2 z ys rfl rfl hres⟩
end
section
open Go.RowKit Go.Sort
theorem info59w:(Tryz.prog.info? 59).map (·.size)=some 24:=by kernel_rfl
set_option maxRecDepth 100000 in
theorem wpList_store59 {w:World} {ops:Array Oper} {rest:List Oper} {o:Oper} {a:Act} {Q:Exit→Act→World→Prop} (hg:o.guard=none) (p q:Operand) (hop:o.op=Op.store 59 p q) (xs ys:Array Value) (n:Nat)
  (hp:a.eval p=.pointer (some ⟨n,0,none⟩)) (hn:n=w.heap.size) (hq:a.eval q=.agg ys) (h1:ys.all (·.oneCell')=true) (hxs:xs.size=24) (hys:ys.size=24)
  (hK:wpList Tryz.prog ops Q rest (a.put o.dst undef) (w.alloc (.cells ys 59))):wpList Tryz.prog ops Q (o::rest) a (w.alloc (.cells xs 59)):=by
 subst hn
 have hrun:=run_storeAt_new (P:=Tryz.prog) w 59 xs ys (by rw[hys];exact info59w) (by rw[hxs,hys]) h1
 refine wpList_plain hg fun K' hK'=>?_
 unfold Oper.wp
 simp only[execOp,hop,hp,hq,Sem.run_bind,Sem.run_pure,hrun,Result.andThen]
 exact hK' _ _ hK
theorem struct59w:∃fs,Tryz.prog.underlying 59=some (.struct fs):=by
 cases h:Tryz.prog.underlying 59 with
 |none=>exact absurd (show(Tryz.prog.underlying 59).isSome=true by kernel_rfl) (by rw[h];simp)
 |some d=>
  cases d with
  |struct fs=>exact⟨fs,rfl⟩
  |_=>exact absurd (show(match Tryz.prog.underlying 59 with|some (.struct _)=>true|_=>false)=true by kernel_rfl) (by rw[h];simp)
theorem run_loadAt59 {w:World} {q:Nat} {ys:Array Value} (h:w.heap[q]? =some (.cells ys 59 (0,0))) (hys:ys.size=24):(Instr.loadAt 59 (.pointer (some ⟨q,0,none⟩))).run Tryz.prog w=.ok (.agg ys) w:=by
 obtain⟨fs,hu⟩:=struct59w
 simp only[Instr.loadAt,Instr.sureAddr,Sem.run_bind,Sem.run_pure,Result.andThen]
 exact run_loadVar_row w q 59 59 ys (0,0) _ h hu rfl (by rw[hys];exact info59w)
theorem wpList_load59 {w:World} {ops:Array Oper} {rest:List Oper} {o:Oper} {a:Act} {Q:Exit→Act→World→Prop} (hg:o.guard=none) (p:Operand) (hop:o.op=Op.load 59 p) (ys:Array Value) (n:Nat)
  (hp:a.eval p=.pointer (some ⟨n,0,none⟩)) (h:w.heap[n]? =some (.cells ys 59 (0,0))) (hys:ys.size=24)
  (hK:wpList Tryz.prog ops Q rest (a.put o.dst (.agg ys)) w):wpList Tryz.prog ops Q (o::rest) a w:=by
 have hrun:=run_loadAt59 h hys
 refine wpList_plain hg fun K' hK'=>?_
 unfold Oper.wp
 simp only[execOp,hop,hp,Sem.run_bind,Sem.run_pure,hrun,Result.andThen]
 exact hK' _ _ hK
end
section
open Go.RowKit Go.Sort
section
variable {w:World} {sa up:Option Addr} {sc uc:Nat} {l:List Sg} {uo uv ub:Int} {un:ByteArray} {us:Fs} {y:Wf}
open X in
theorem enc_pre (ht:Fs.cons uo un uv ub us .nil=tr y) (hlo:Lo y) (hv:validB l=true):
  (l.length<65520∧∀s∈l,s.name.size<65520∧InR s.size)∧(InF (.cons uo un uv ub us .nil)∧TopF (.cons uo un uv ub us .nil))∧us.nodes+1≤400:=by
 obtain⟨l1,l2, -⟩:=valid_write hv
 have h1:=forest_write [y] (fun z hz=>by simp at hz;rw[hz];exact hlo)
 have h2:trs [y]=.cons uo un uv ub us .nil:=ht.symm
 rw[h2] at h1
 have h3:=trC_nodes y (show trC y .nil=.cons uo un uv ub us .nil from ht.symm)
 have h4:=hlo.size
 exact⟨⟨by omega,fun s hs=>⟨by have:=(l2 s hs).1;omega,(l2 s hs).2⟩⟩,h1,by omega⟩
theorem rd_fv (hu:Rd w ⟨uo,un,uv,ub,us,up,uc⟩):FV w (.slice up us.len uc) us:=⟨hu.len,up,uc,rfl,hu.cap,hu.args⟩
set_option maxRecDepth 100000 in
theorem enc_two (hsg:SgV w (.slice sa l.length sc) l) (hu:Rd w ⟨uo,un,uv,ub,us,up,uc⟩) (ht:Fs.cons uo un uv ub us .nil=tr y) (hlo:Lo y) (hv:validB l=true):
  Calls Tryz.prog 23 #[.agg (X.clR sa l.length sc uo un uv ub up us.len uc none 0 0 none 0 0)] w (X.CodedR w (X.codeR l (tr y) [] .nil)):=by
 obtain⟨g1,g2,g6⟩:=enc_pre ht hlo hv
 have h:=X.encode_R w (ls:=[]) (rs:=.nil) (a22:=none) (a23:=none) (c22:=0) (c23:=0) hsg (rd_fv hu) ⟨none,0,rfl,fun h=>absurd rfl h⟩ ⟨Nat.zero_le _,none,0,rfl,Nat.le_refl _,fun h=>absurd rfl h⟩ g1 g2 ⟨by decide,fun x hx=>by simp at hx⟩ rfl ⟨trivial,trivial⟩ (by simp only[Fs.nodes];omega)
 rw[ht] at h
 exact h
set_option maxRecDepth 100000 in
theorem enc_one (hsg:SgV w (.slice sa l.length sc) l) (hu:Rd w ⟨uo,un,uv,ub,us,up,uc⟩) (ht:Fs.cons uo un uv ub us .nil=tr y) (hlo:Lo y) (hv:validB l=true) {b0 b1:Nat}
  (h0:w.heap[b0]? =some (.cells #[.int .i64 0] 3 (0,0))) (h1:w.heap[b1]? =some (.cells #[.int .i64 uo,.string un,.int .i64 uv,.int .i64 ub,.slice up us.len uc] 48 (0,0))):
  Calls Tryz.prog 23 #[.agg (X.clR sa l.length sc uo un uv ub up us.len uc (some ⟨b0,0,none⟩) 1 1 (some ⟨b1,0,none⟩) 1 1)] w (X.CodedR w (X.codeR l (tr y) [0] (trs [y]))):=by
 obtain⟨g1,g2,g6⟩:=enc_pre ht hlo hv
 have hb0:=(Array.getElem?_eq_some_iff.1 h0).1
 have hb1:=(Array.getElem?_eq_some_iff.1 h1).1
 have hn:Nums w (.slice (some ⟨b0,0,none⟩) ([0]:List Int).length 1) [0]:=⟨_,1,rfl,fun _=>⟨b0,0,rfl,hb0,fun j hj=>by
  have:j=0:=by simp at hj;exact hj
  subst this
  simp[World.cell?,h0]⟩⟩
 have hat:FAt w (.cons uo un uv ub us .nil) b1 0:=hu.at (w:=w) h1
 have hf:FV w (.slice (some ⟨b1,0,none⟩) (Fs.cons uo un uv ub us .nil).len 1) (.cons uo un uv ub us .nil):=⟨by simp[Fs.len],_,1,rfl,by simp[Fs.len],fun _=>⟨b1,0,rfl,hb1,hat⟩⟩
 have e1:(Fs.cons uo un uv ub us .nil).len=1:=by simp[Fs.len]
 have e2:([0]:List Int).length=1:=rfl
 have e3:trs [y]=.cons uo un uv ub us .nil:=ht.symm
 have g3:([0]:List Int).length<65520∧∀x∈([0]:List Int),X.InR x:=⟨by decide,fun x hx=>by simp at hx;subst hx;exact⟨by decide,by decide⟩⟩
 have g7:us.nodes+1+(Fs.cons uo un uv ub us .nil).nodes<33554432:=by simp only[Fs.nodes];omega
 have h:=X.encode_R w hsg (rd_fv hu) hn hf g1 g2 g3 (by rw[e1,e2]) g2 g7
 rw[e1,e2] at h
 rw[e3,←ht]
 exact h
def NumsA (lo:Nat) (w:World) (v:Value) (L:List Int):Prop:=∃g c,v=.slice (some ⟨g,0,none⟩) L.length c∧lo≤g∧g<w.heap.size∧L.length≤c∧∀j,j<L.length→w.cell? ⟨g,j,none⟩=some (.int .i64 (L.getD j 0))
theorem NumsA.keep {lo:Nat} {w w':World} {v:Value} {L:List Int} (h:NumsA lo w v L) (hB:Below w.heap.size w w'):NumsA lo w' v L:=by
 obtain⟨g,c,e,h1,h2,h4,h3⟩:=h
 exact⟨g,c,e,h1,Nat.lt_of_lt_of_le h2 hB.size,h4,fun j hj=>(hB.cell (p:=⟨g,j,none⟩) h2).trans (h3 j hj)⟩
theorem NumsA.set {lo:Nat} {w:World} {v:Value} {L:List Int} (h:NumsA lo w v L) {q o:Nat} (hq:q<lo) (u:Value):NumsA lo (w.setCell ⟨q,o,none⟩ u) v L:=by
 obtain⟨g,c,e,h1,h2,h4,h3⟩:=h
 have hh:(w.setCell ⟨q,o,none⟩ u).heap[g]? =w.heap[g]? :=heap_setCell_other _ _ _ _ (by show g≠q;omega)
 refine⟨g,c,e,h1,?_,h4,fun j hj=>?_⟩
 ·rw[Array.getElem?_eq_getElem h2] at hh
  exact(Array.getElem?_eq_some_iff.1 hh).1
 ·rw[←h3 j hj]
  simp only[World.cell?,hh]
theorem NumsA.nums {lo:Nat} {w:World} {v:Value} {L:List Int} (h:NumsA lo w v L):Nums w v L:=by
 obtain⟨g,c,rfl,h1,h2, -,h3⟩:=h
 exact⟨_,c,rfl,fun _=>⟨g,0,rfl,h2,fun j hj=>by rw[Nat.zero_add];exact h3 j hj⟩⟩
theorem coded_ok {L:List Int} {e:Ending} {w':World} (h:X.CodedR w L e w') (hl:L.length≤20000) (h0:L≠[]):∃az ln cz s,e=.returned (.tuple #[.agg #[.slice az ln cz,.int .i64 s],.int .i64 0])∧Below w.heap.size w w'∧NumsA w.heap.size w' (.slice az ln cz) L:=by
 obtain⟨hB,az,ln,cz,s,k,rfl,⟨h1, -⟩|⟨-,rfl,ho⟩⟩:=h
 ·omega
 ·refine⟨az,ln,cz,s,rfl,hB,?_⟩
  obtain⟨a,c,e,hc⟩:=nums_owned ho
  obtain⟨b,o,rfl,hb,hc⟩:=hc h0
  rcases ho.2 with⟨e2,h2⟩|⟨g,cap,cur,e2,hg,hh,hcap, -⟩
  ·exact absurd (List.length_eq_zero_iff.1 h2) h0
  ·simp only[Value.slice.injEq,Option.some.injEq,Addr.mk.injEq] at e e2
   obtain⟨rfl,rfl,rfl⟩:=e
   obtain⟨⟨rfl,rfl, -⟩, -,e5⟩:=e2
   exact⟨_,_,rfl,by omega,hb,by omega,fun j hj=>by have:=hc j hj;rwa[Nat.zero_add] at this⟩
theorem nums_tail {p q:List Int} {az:Option Addr} {ln cz:Nat} (h:Nums w (.slice az ln cz) (p++q)) (hq:q≠[]):ln=(p++q).length∧∃b o,az=some ⟨b,o,none⟩∧Nums w (.slice (some ⟨b,o+p.length,none⟩) q.length (cz - p.length)) q:=by
 obtain⟨a,c,e,h⟩:=h
 simp only[Value.slice.injEq] at e
 obtain⟨rfl,e2,rfl⟩:=e
 obtain⟨b,o,rfl,hb,hc⟩:=h (by simp[hq])
 refine⟨e2,b,o,rfl,_,_,rfl,fun _=>⟨b,o+p.length,rfl,hb,fun j hj=>?_⟩⟩
 have h2:=hc (p.length+j) (by rw[List.length_append];omega)
 rw[show o+p.length+j=o+(p.length+j) by omega,h2]
 simp[List.getD_eq_getElem?_getD,List.getElem?_append_right]
end
end
section
open Go.RowKit Go.Sort
theorem boxed (w:World) (cs:Array Value) (t:TypeId):∃w1,w1=w.alloc (.cells cs t)∧w1.heap.size=w.heap.size+1∧Below w.heap.size w w1∧(∀wr,Below (w.heap.size+1) w1 wr→∀j,wr.cell? ⟨w.heap.size,j,none⟩=cs[j]?):=
 ⟨_,rfl,by simp,(Below.refl _ _).alloc (Nat.le_refl _) _,fun wr hB j=>(hB.cell (p:=⟨w.heap.size,j,none⟩) (show w.heap.size<w.heap.size+1 by omega)).trans (cell_new w cs t j)⟩
theorem alloc3 (w:World) (A B C:Obj):(((w.alloc A).alloc B).alloc C).heap[w.heap.size]? =some A∧(((w.alloc A).alloc B).alloc C).heap[w.heap.size+1]? =some B∧(((w.alloc A).alloc B).alloc C).heap[w.heap.size+1+1]? =some C∧
  Below w.heap.size w (((w.alloc A).alloc B).alloc C)∧(((w.alloc A).alloc B).alloc C).heap.size=w.heap.size+1+1+1:=by
 refine⟨?_,?_,?_,(((Below.refl _ _).alloc (Nat.le_refl _) _).alloc (by simp) _).alloc (by simp;omega) _,by simp⟩
 ·rw[heap_alloc_old _ _ (by simp;omega),heap_alloc_old _ _ (by simp)];exact World.alloc_heap_new w A
 ·rw[heap_alloc_old _ _ (by simp)];have:=World.alloc_heap_new (w.alloc A) B;rwa[World.size_alloc] at this
 ·have:=World.alloc_heap_new ((w.alloc A).alloc B) C;rwa[World.size_alloc,World.size_alloc] at this
theorem tr_op_ne {y:Wf} (h:Lo y) {nm:ByteArray} {v bd:Int} {args:Fs} (e:Fs.cons 0 nm v bd args .nil=tr y):False:=by
 obtain⟨op',nm',v',bd',a',e1, -⟩:=trC_cons y .nil
 have h1:=opW_pos y
 have h2:=tree_op (x:=⟨0,nm,v,bd,args,none,0⟩) e
 have h2:(0:Int)=opW y:=h2
 omega
theorem runOut_tree {fb:Bool} {n0:Nat} {w w':World} {t:Fs} {F:Wf→Option Wf} {e:Ending} (h:RunOut fb n0 w t F e w') (hz:fb=true→∃z,t=tr z):
  ∃u:ElA,u.ok n0 w'∧e=.returned (.agg u.enc.toArray)∧Below w.heap.size w w'∧(fb=false→u.tree=tz)∧(fb=true→∀z,t=tr z→u.tree=trO (F z)):=by
 cases fb with
 |false=>
  obtain⟨u,h1,h2,h3,h4⟩:=h.1 rfl
  exact⟨u,h1,h3,h4,fun _=>h2,fun e=>absurd e (by decide)⟩
 |true=>
  obtain⟨z,rfl⟩:=hz rfl
  obtain⟨u,h1,h2,h3,h4⟩:=h.2 rfl z rfl
  exact⟨u,h1,h3,h4,fun e=>absurd e (by decide),fun _ z' e=>by rw[←tr_inj e];exact h2⟩
set_option maxRecDepth 100000 in
set_option maxHeartbeats 40000000 in
theorem residuals_any (W:World) (hh:∀w',Below W.heap.size W w'→HeadAt w') {sv:Value} {l:List Sg} (hE:Env W sv l) {x:ElA} (hx:Rd W x) {la:Option Addr} {lc:Nat} {ls:List Int} (hls:Nums W (.slice la ls.length lc) ls) (hll:ls.length≤9223372036854775807):
  Calls Tryz.prog 6 #[sv,.agg x.enc.toArray,.slice la ls.length lc] W (Yes W):=by
 have HFB:Hid (x.args.nodes+1≤30→fitB l x.op x.nm x.v x.bd x.args=true→∃z,x.tree=tr z∧Fit l z∧validB l=true∧size z≤30):=Lib.hid fun hs h=>by
  obtain⟨z,e,hf⟩:=fitB_fit h
  exact⟨z,e .nil,hf,fitB_valid h,by rw[←(trC_nodes z (e .nil).symm).1];exact hs⟩
 have HX:=Lib.hid hx
 have HE:=Lib.hid hE
 have HL:=Lib.hid hls
 obtain⟨sa,sc,esv, -, -⟩:=hE.sg
 subst esv
 clear hE hx hls
 obtain⟨op,nm,v,bd,args,a,c⟩:=x
 simp only[ElA.enc] at HFB ⊢
 obtain⟨w1,e1,hs1,hb1,hc1⟩:=boxed W #[.int .i64 op,.string nm,.int .i64 v,.int .i64 bd,.slice a args.len c] 48
 have HH:=Lib.hid (hh w1 hb1)
 have HB:=Lib.hid hb1
 have HS:=Lib.hid hs1
 have E1:=Lib.hid e1
 have HC:Hid (∀wr,Below (W.heap.size+1) w1 wr→∀j,wr.cell? ⟨W.heap.size,j,none⟩= #[Value.int .i64 op,.string nm,.int .i64 v,.int .i64 bd,.slice a args.len c][j]?):=Lib.hid hc1
 clear e1 hs1 hb1 hc1 hh
 go_enter Tryz.func6,Tryz.ntmps6
 go_upto_region 1 with fail
 rw[←E1.out]
 clear E1
 generalize hbc:W.heap.size=bc at HC HS HB ⊢
 have HBC:=Lib.hid hbc
 clear hbc
 go_wp2_with fail
 refine HH.out.mono ?_
 rintro e w2 ⟨rfl,hB2⟩
 have HX2:Hid (Below (bc+1) w1 w2):=Lib.hid (hB2.mono (Nat.le_of_eq HS.out.symm))
 clear hB2 HH
 have HUP:Hid (∀wr,Below (bc+1) w1 wr→Below W.heap.size W wr):=Lib.hid fun wr h=>by rw[HBC.out];exact HB.out.trans (h.mono (by omega))
 have HSZ:Hid (∀wr,Below (bc+1) w1 wr→bc+1≤wr.heap.size):=Lib.hid fun wr h=>by have h1:=h.size;have h2:=HS.out;omega
 have t0:=HC.out w2 HX2.out 0
 have t1:=HC.out w2 HX2.out 1
 have t2:=HC.out w2 HX2.out 2
 have t3:=HC.out w2 HX2.out 3
 have t4:=HC.out w2 HX2.out 4
 simp only[List.getElem?_toArray,List.getElem?_cons_succ,List.getElem?_cons_zero] at t0 t1 t2 t3 t4
 have hsm:=small19 args w2 op v bd nm a c 30 HX.out.len (HX.out.args.keep (HUP.out w2 HX2.out)) (by omega) (by omega)
 go_wp2_with fail
 refine hsm.mono ?_
 rintro e w3 ⟨q3,rfl,hq3,hB3⟩
 have HX3:Hid (Below (bc+1) w1 w3):=Lib.hid (HX2.out.trans (hB3.mono (HSZ.out w2 HX2.out)))
 have HQ3:=Lib.hid hq3
 clear hB3 hq3 hsm
 clear t0 t1 t2 t3 t4
 by_cases hc:q3=true
 case neg=>
  obtain rfl:q3=false:=by simpa using hc
  clear hc
  go_wp2_with fail
  go_ret
  exact⟨rfl,HUP.out _ HX3.out⟩
 subst hc
 have HN30:Hid (args.nodes+1≤30):=Lib.hid (by have:=HQ3.out rfl;omega)
 clear HQ3
 have t0:=HC.out w3 HX3.out 0
 have t1:=HC.out w3 HX3.out 1
 have t2:=HC.out w3 HX3.out 2
 have t3:=HC.out w3 HX3.out 3
 have t4:=HC.out w3 HX3.out 4
 simp only[List.getElem?_toArray,List.getElem?_cons_succ,List.getElem?_cons_zero] at t0 t1 t2 t3 t4
 have hri:=right20 args w3 op v bd nm a c HX.out.nm HX.out.len (HX.out.args.keep (HUP.out w3 HX3.out)) (HE.out.sg.keep (HUP.out w3 HX3.out))
 go_wp2_with fail
 refine hri.mono ?_
 rintro e w4 ⟨q4,rfl,hB4⟩
 have HX4:Hid (Below (bc+1) w1 w4):=Lib.hid (HX3.out.trans (hB4.mono (HSZ.out w3 HX3.out)))
 clear hB4 hri
 clear t0 t1 t2 t3 t4
 by_cases hc:q4=true
 case neg=>
  obtain rfl:q4=false:=by simpa using hc
  clear hc
  go_wp2_with fail
  go_ret
  exact⟨rfl,HUP.out _ HX4.out⟩
 subst hc
 by_cases h12:(12:Int)<ls.length
 ·have hd1:decide ((12:Int)<ls.length)=true:=by simpa using h12
  go_wp2_with fail
  go_ret
  exact⟨rfl,HUP.out _ HX4.out⟩
 have hd1:decide ((12:Int)<ls.length)=false:=by simpa using h12
 by_cases h0:ls.length=0
 ·have hd2:decide ((ls.length:Int)=0)=true:=by simpa using h0
  have hd3:((ls.length:Int)==0)=true:=by simpa using h0
  go_wp2_with fail
  go_ret
  exact⟨rfl,HUP.out _ HX4.out⟩
 have hd2:decide ((ls.length:Int)=0)=false:=by simpa using h0
 have hd3:((ls.length:Int)==0)=false:=by simpa using h0
 have H12:Hid (ls.length≤12∧ls≠[]):=Lib.hid ⟨by omega,fun e=>h0 (by rw[e];rfl)⟩
 go_upto_region 4 with fail
 clear hd1 hd2 hd3 h0 h12
 have HRU:=Lib.hid (run21 (Nat.le_refl w4.heap.size) (HE.out.keep (HUP.out w4 HX4.out)) (HX.out.keep (HUP.out w4 HX4.out)) (HL.out.keep (HUP.out w4 HX4.out)) (by have:=H12.out;omega))
 simp only[ElA.enc] at HRU
 have t0:=HC.out w4 HX4.out 0
 have t1:=HC.out w4 HX4.out 1
 have t2:=HC.out w4 HX4.out 2
 have t3:=HC.out w4 HX4.out 3
 have t4:=HC.out w4 HX4.out 4
 simp only[List.getElem?_toArray,List.getElem?_cons_succ,List.getElem?_cons_zero] at t0 t1 t2 t3 t4
 go_wp2_with fail
 refine HRU.out.mono ?_
 intro e w5 hru
 obtain⟨u,hok,rfl,hB5,hu1,hu2⟩:=runOut_tree hru fun h=>by obtain⟨z,e, -⟩:=HFB.out HN30.out h;exact⟨z,e⟩
 have HX5:Hid (Below (bc+1) w1 w5):=Lib.hid (HX4.out.trans (hB5.mono (HSZ.out w4 HX4.out)))
 have HOK:=Lib.hid (Rd.of_ok hok)
 have HU:=Lib.hid (And.intro hu1 hu2)
 clear hru hok hu1 hu2 hB5 HRU
 clear t0 t1 t2 t3 t4
 have HUT:Hid (u.tree=u.tree):=Lib.hid rfl
 obtain⟨uo,un,uv,ub,us,up,uc⟩:=u
 simp only[ElA.enc]
 generalize hut:ElA.tree ⟨uo,un,uv,ub,us,up,uc⟩=ut at*
 have HT:Hid (Fs.cons uo un uv ub us .nil=ut):=Lib.hid hut
 clear hut HUT
 obtain⟨w6,e6,hs6,hb6,hc6⟩:=boxed w5 #[.int .i64 uo,.string un,.int .i64 uv,.int .i64 ub,.slice up us.len uc] 48
 have HX6:Hid (Below (bc+1) w1 w6):=Lib.hid (HX5.out.trans (hb6.mono (HSZ.out w5 HX5.out)))
 have HC6:Hid (∀wr,Below (w5.heap.size+1) w6 wr→∀j,wr.cell? ⟨w5.heap.size,j,none⟩= #[Value.int .i64 uo,.string un,.int .i64 uv,.int .i64 ub,.slice up us.len uc][j]?):=Lib.hid hc6
 have HS6:=Lib.hid hs6
 have HB6:=Lib.hid hb6
 have E6:=Lib.hid e6
 clear e6 hs6 hb6 hc6
 go_upto_region 5 with fail
 rw[←E6.out]
 clear E6
 have HRS:=Lib.hid (residual22 (HE.out.keep (HUP.out w6 HX6.out)) (HX.out.keep (HUP.out w6 HX6.out)) (HL.out.keep (HUP.out w6 HX6.out)) H12.out.1)
 simp only[ElA.enc] at HRS
 have t0:=HC.out w6 HX6.out 0
 have t1:=HC.out w6 HX6.out 1
 have t2:=HC.out w6 HX6.out 2
 have t3:=HC.out w6 HX6.out 3
 have t4:=HC.out w6 HX6.out 4
 simp only[List.getElem?_toArray,List.getElem?_cons_succ,List.getElem?_cons_zero] at t0 t1 t2 t3 t4
 go_wp2_with fail
 refine HRS.out.mono ?_
 rintro e w7 ⟨az,ln,cz,s,k,rfl,hB7,hr1,hr2⟩
 have HX7:Hid (Below (bc+1) w1 w7):=Lib.hid (HX6.out.trans (hB7.mono (HSZ.out w6 HX6.out)))
 have HX67:Hid (Below (w5.heap.size+1) w6 w7):=Lib.hid (hB7.mono (Nat.le_of_eq HS6.out.symm))
 have HLA:=Lib.hid (last_of (N:=NumsC w7 (.slice az ln cz)) H12.out.2 (HFB.out HN30.out) HU.out hr1 hr2)
 clear hB7 hr1 hr2 HRS HU
 clear t0 t1 t2 t3 t4
 obtain⟨w8,e8,hs8,hb8,hc8⟩:=boxed w7 #[.slice az ln cz,.int .i64 s] 30
 have HX8:Hid (Below (bc+1) w1 w8):=Lib.hid (HX7.out.trans (hb8.mono (HSZ.out w7 HX7.out)))
 have HX68:Hid (Below (w5.heap.size+1) w6 w8):=Lib.hid (HX67.out.trans (hb8.mono (by have:=HX67.out.size;have:=HS6.out;omega)))
 have HC8:Hid (∀wr,Below (w7.heap.size+1) w8 wr→∀j,wr.cell? ⟨w7.heap.size,j,none⟩= #[Value.slice az ln cz,.int .i64 s][j]?):=Lib.hid hc8
 have HS8:=Lib.hid hs8
 have HB8:=Lib.hid hb8
 have E8:=Lib.hid e8
 clear e8 hs8 hb8 hc8
 rcases HLA.out with⟨hz,hk⟩|⟨ys,y,hy,hlo,hv,hlast,hk⟩
 ·have h0:uo=0:=by have h:=HT.out;rw[hz] at h;simp only[tz,Fs.cons.injEq] at h;exact h.1
  subst h0
  have HK:=Lib.hid hk
  clear hz hk
  go_upto_region 6 with fail
  rw[←E8.out]
  clear E8
  have s0:=HC6.out w8 HX68.out 0
  have s1:=HC6.out w8 HX68.out 1
  have s2:=HC6.out w8 HX68.out 2
  have s3:=HC6.out w8 HX68.out 3
  have s4:=HC6.out w8 HX68.out 4
  simp only[List.getElem?_toArray,List.getElem?_cons_succ,List.getElem?_cons_zero] at s0 s1 s2 s3 s4
  rcases HK.out with rfl|rfl
  ·go_wp2_with fail
   go_ret
   exact⟨rfl,HUP.out _ HX8.out⟩
  ·go_wp2_with fail
   go_ret
   exact⟨rfl,HUP.out _ HX8.out⟩
 ·have hne:uo≠0:=fun h=>by
   have h1:=HT.out
   rw[hy] at h1
   exact tr_op_ne hlo (by rw[←h1,h])
  have g1:decide (uo=(0:Int))=false:=by simpa using hne
  have g2:(uo==(0:Int))=false:=by simpa using hne
  clear hne
  have HY:=Lib.hid (And.intro hy (And.intro hlo (And.intro hv hlast)))
  clear hy hlo hv hlast
  go_upto_region 6 with fail
  rw[←E8.out]
  clear E8
  have s0:=HC6.out w8 HX68.out 0
  have s1:=HC6.out w8 HX68.out 1
  have s2:=HC6.out w8 HX68.out 2
  have s3:=HC6.out w8 HX68.out 3
  have s4:=HC6.out w8 HX68.out 4
  simp only[List.getElem?_toArray,List.getElem?_cons_succ,List.getElem?_cons_zero] at s0 s1 s2 s3 s4
  rcases hk with rfl|⟨rfl,hnum⟩
  ·go_wp2_with fail
   go_ret
   exact⟨rfl,HUP.out _ HX8.out⟩
  have HNU:=Lib.hid (hnum.1.keep HB8.out)
  have HCAP:Hid (ln≤cz):=Lib.hid (hnum.2.1 _ _ _ rfl)
  have HL20:=Lib.hid hnum.2.2
  clear hnum
  have HEN:=Lib.hid (ends_of (t:=Fs.cons op nm v bd args .nil) (ls:=ls) HY.out.2.2.1 HY.out.2.1 HY.out.2.2.2)
  go_upto_region 10 with fail
  clear g1 g2
  have HA9:Hid (Below w8.heap.size w8 (w8.alloc (.cells #[.int .i64 0] 3))):=Lib.hid ((Below.refl _ _).alloc (Nat.le_refl _) _)
  have HX69:Hid (Below (w5.heap.size+1) w6 (w8.alloc (.cells #[.int .i64 0] 3))):=Lib.hid (HX68.out.trans (HA9.out.mono (by have:=HX68.out.size;have:=HS6.out;omega)))
  have p0:=HC6.out (w8.alloc (.cells #[.int .i64 0] 3)) HX69.out 0
  have p1:=HC6.out (w8.alloc (.cells #[.int .i64 0] 3)) HX69.out 1
  have p2:=HC6.out (w8.alloc (.cells #[.int .i64 0] 3)) HX69.out 2
  have p3:=HC6.out (w8.alloc (.cells #[.int .i64 0] 3)) HX69.out 3
  have p4:=HC6.out (w8.alloc (.cells #[.int .i64 0] 3)) HX69.out 4
  simp only[List.getElem?_toArray,List.getElem?_cons_succ,List.getElem?_cons_zero] at p0 p1 p2 p3 p4
  go_upto_region 11 with(first|(refine wpList_store59 rfl _ _ rfl _ _ _ rfl (by simp) rfl (by simp[Value.oneCell']) rfl rfl ?_))
  have ha3:=alloc3 w8 (.cells #[.int .i64 0] 3) (.cells #[.int .i64 uo,.string un,.int .i64 uv,.int .i64 ub,.slice up us.len uc] 48) (.cells #[.int .i64 4,.slice sa l.length sc,.int .i64 uo,.string un,.int .i64 uv,.int .i64 ub,.slice up us.len uc,.int .i64 0,.int .i64 0,.int .i64 0,.slice none 0 0,.slice none 0 0,.int .i64 0,.int .i64 0,.int .i64 0,.slice none 0 0,.slice none 0 0,.slice none 0 0,.slice none 0 0,.slice none 0 0,.slice none 0 0,.slice none 0 0,.slice (some ⟨w8.heap.size,0,none⟩) 1 1,.slice (some ⟨w8.heap.size+1,0,none⟩) 1 1] 59)
  clear HA9 HX69 s0 p0 s1 p1 s2 p2 s3 p3 s4 p4
  generalize (((w8.alloc (.cells #[.int .i64 0] 3)).alloc (.cells #[.int .i64 uo,.string un,.int .i64 uv,.int .i64 ub,.slice up us.len uc] 48)).alloc (.cells #[.int .i64 4,.slice sa l.length sc,.int .i64 uo,.string un,.int .i64 uv,.int .i64 ub,.slice up us.len uc,.int .i64 0,.int .i64 0,.int .i64 0,.slice none 0 0,.slice none 0 0,.int .i64 0,.int .i64 0,.int .i64 0,.slice none 0 0,.slice none 0 0,.slice none 0 0,.slice none 0 0,.slice none 0 0,.slice none 0 0,.slice none 0 0,.slice (some ⟨w8.heap.size,0,none⟩) 1 1,.slice (some ⟨w8.heap.size+1,0,none⟩) 1 1] 59))=w11 at*
  obtain⟨k0,k1,k2,kB,kS⟩:=ha3
  have HX11:Hid (Below (bc+1) w1 w11):=Lib.hid (HX8.out.trans (kB.mono (HSZ.out w8 HX8.out)))
  have HR5:Hid (Below w5.heap.size w5 w11):=Lib.hid (HB6.out.trans ((HX68.out.trans (kB.mono (by have:=HX68.out.size;have:=HS6.out;omega))).mono (by omega)))
  have H811:Hid (Below (w7.heap.size+1) w8 w11):=Lib.hid (kB.mono (Nat.le_of_eq HS8.out.symm))
  have HN11:=Lib.hid (HNU.out.keep kB)
  have H88:=Lib.hid kB
  have HZ11:=Lib.hid kS
  have HEN1:=Lib.hid (enc_one (y:=y) (HE.out.sg.keep (HUP.out w11 HX11.out)) (HOK.out.keep HR5.out) (HT.out.trans HY.out.1) HY.out.2.1 HY.out.2.2.1 k0 k1)
  simp only[X.clR] at HEN1
  have HK2:=Lib.hid k2
  clear k0 k1 kB kS
  go_wp2_with (first|(refine wpList_load59 rfl _ rfl _ _ rfl (by assumption) rfl ?_))
  refine HEN1.out.mono ?_
  intro e w12 hcd
  obtain⟨ax,lx,cx,sx,rfl,hB12,hnx⟩:=coded_ok hcd HEN.out.one (fun h=>by have:=HEN.out.len;rw[h] at this;simp at this;omega)
  have HX12:Hid (Below (bc+1) w1 w12):=Lib.hid (HX11.out.trans (hB12.mono (HSZ.out w11 HX11.out)))
  obtain⟨w13,e13,hs13,hb13,hc13⟩:=boxed w12 #[.slice ax lx cx,.int .i64 sx] 30
  have h13q:=(hb13.block (w8.heap.size+1+1) (by have:=hB12.size;have:=HZ11.out;omega)).trans ((hB12.block (w8.heap.size+1+1) (by have:=HZ11.out;omega)).trans HK2.out)
  have h13x:w13.heap[w12.heap.size]? =some (.cells #[.slice ax lx cx,.int .i64 sx] 30 (0,0)):=by rw[e13];exact World.alloc_heap_new _ _
  have HX13:Hid (Below (bc+1) w1 w13):=Lib.hid (HX12.out.trans (hb13.mono (HSZ.out w12 HX12.out)))
  have HR13:Hid (Below w5.heap.size w5 w13):=Lib.hid (HR5.out.trans ((hB12.trans (hb13.mono hB12.size)).mono HR5.out.size))
  have H813:Hid (Below (w7.heap.size+1) w8 w13):=Lib.hid (H811.out.trans ((hB12.trans (hb13.mono hB12.size)).mono (by have:=HZ11.out;have:=HS8.out;omega)))
  have HN13:=Lib.hid ((HN11.out.keep hB12).keep hb13)
  have H8813:Hid (Below w8.heap.size w8 w13):=Lib.hid (H88.out.trans ((hB12.trans (hb13.mono hB12.size)).mono (by have:=HZ11.out;omega)))
  have HNX:=Lib.hid (hnx.keep hb13)
  have HZ13:Hid (w11.heap.size≤w12.heap.size∧w13.heap.size=w12.heap.size+1):=Lib.hid ⟨hB12.size,hs13⟩
  have E13:=Lib.hid e13
  have HK13:=Lib.hid h13q
  have HX13c:=Lib.hid h13x
  clear e13 hs13 hb13 hc13 h13x hnx hB12 hcd k2 HEN1 HN11
  go_upto_region 12 with fail
  rw[←E13.out]
  clear E13
  have f22:w13.cell? ⟨w8.heap.size+1+1,22,none⟩=some (.slice (some ⟨w8.heap.size,0,none⟩) 1 1):=by simp[World.cell?,h13q]
  have f23:w13.cell? ⟨w8.heap.size+1+1,23,none⟩=some (.slice (some ⟨w8.heap.size+1,0,none⟩) 1 1):=by simp[World.cell?,h13q]
  have z22:w13.frozen? ⟨w8.heap.size+1+1,22,none⟩=false:=by simp[World.frozen?,h13q]
  have z23:w13.frozen? ⟨w8.heap.size+1+1,23,none⟩=false:=by simp[World.frozen?,h13q]
  clear h13q
  go_upto_region 14 with fail
  clear f22 f23 z22 z23
  have HQ8:Hid (bc+1≤w8.heap.size∧w5.heap.size≤w8.heap.size):=Lib.hid ⟨HSZ.out w8 HX8.out,by have:=HX68.out.size;have:=HS6.out;omega⟩
  have HX15:Hid (Below (bc+1) w1 ((w13.setCell ⟨w8.heap.size+1+1,22,none⟩ (.slice none 0 0)).setCell ⟨w8.heap.size+1+1,23,none⟩ (.slice none 0 0))):=Lib.hid ((HX13.out.setCell (by show bc+1≤w8.heap.size+1+1;have:=HQ8.out;omega) _).setCell (by show bc+1≤w8.heap.size+1+1;have:=HQ8.out;omega) _)
  have HR15:Hid (Below w5.heap.size w5 ((w13.setCell ⟨w8.heap.size+1+1,22,none⟩ (.slice none 0 0)).setCell ⟨w8.heap.size+1+1,23,none⟩ (.slice none 0 0))):=Lib.hid ((HR13.out.setCell (by show w5.heap.size≤w8.heap.size+1+1;have:=HQ8.out;omega) _).setCell (by show w5.heap.size≤w8.heap.size+1+1;have:=HQ8.out;omega) _)
  have H815:Hid (Below (w7.heap.size+1) w8 ((w13.setCell ⟨w8.heap.size+1+1,22,none⟩ (.slice none 0 0)).setCell ⟨w8.heap.size+1+1,23,none⟩ (.slice none 0 0))):=Lib.hid ((H813.out.setCell (by show w7.heap.size+1≤w8.heap.size+1+1;have:=HS8.out;omega) _).setCell (by show w7.heap.size+1≤w8.heap.size+1+1;have:=HS8.out;omega) _)
  have HN15:Hid (Below w8.heap.size w8 ((w13.setCell ⟨w8.heap.size+1+1,22,none⟩ (.slice none 0 0)).setCell ⟨w8.heap.size+1+1,23,none⟩ (.slice none 0 0))):=Lib.hid ((H8813.out.setCell (by show w8.heap.size≤w8.heap.size+1+1;omega) _).setCell (by show w8.heap.size≤w8.heap.size+1+1;omega) _)
  have HNX15:=Lib.hid ((HNX.out.set (q:=w8.heap.size+1+1) (o:=22) (by have:=HZ11.out;omega) (.slice none 0 0)).set (q:=w8.heap.size+1+1) (o:=23) (by have:=HZ11.out;omega) (.slice none 0 0))
  have HXC15:Hid (((w13.setCell ⟨w8.heap.size+1+1,22,none⟩ (.slice none 0 0)).setCell ⟨w8.heap.size+1+1,23,none⟩ (.slice none 0 0)).heap[w12.heap.size]? =some (.cells #[.slice ax lx cx,.int .i64 sx] 30 (0,0))):=Lib.hid (by
   rw[heap_setCell_other _ _ _ _ (by show w12.heap.size≠w8.heap.size+1+1;have:=HZ13.out;have:=HZ11.out;omega),heap_setCell_other _ _ _ _ (by show w12.heap.size≠w8.heap.size+1+1;have:=HZ13.out;have:=HZ11.out;omega)]
   exact HX13c.out)
  have k15:((w13.setCell ⟨w8.heap.size+1+1,22,none⟩ (.slice none 0 0)).setCell ⟨w8.heap.size+1+1,23,none⟩ (.slice none 0 0)).heap[w8.heap.size+1+1]? =some (.cells #[.int .i64 4,.slice sa l.length sc,.int .i64 uo,.string un,.int .i64 uv,.int .i64 ub,.slice up us.len uc,.int .i64 0,.int .i64 0,.int .i64 0,.slice none 0 0,.slice none 0 0,.int .i64 0,.int .i64 0,.int .i64 0,.slice none 0 0,.slice none 0 0,.slice none 0 0,.slice none 0 0,.slice none 0 0,.slice none 0 0,.slice none 0 0,.slice none 0 0,.slice none 0 0] 59 (0,0)):=
   heap_setCell_same _ _ 23 _ 59 (.slice none 0 0) (heap_setCell_same w13 _ 22 _ 59 (.slice none 0 0) HK13.out)
  clear HK13 HX13c HNX HR13 H813 HX13 HN13
  generalize ((w13.setCell ⟨w8.heap.size+1+1,22,none⟩ (.slice none 0 0)).setCell ⟨w8.heap.size+1+1,23,none⟩ (.slice none 0 0))=w15 at*
  have HEN2:=Lib.hid (enc_two (y:=y) (HE.out.sg.keep (HUP.out w15 HX15.out)) (HOK.out.keep HR15.out) (HT.out.trans HY.out.1) HY.out.2.1 HY.out.2.2.1)
  simp only[X.clR] at HEN2
  go_wp2_with (first|(refine wpList_load59 rfl _ rfl _ _ rfl (by assumption) rfl ?_))
  refine HEN2.out.mono ?_
  intro e w16 hcd
  obtain⟨ay,ly,cy,sy,rfl,hB16,hny⟩:=coded_ok hcd HEN.out.two (fun h=>by simp[X.codeR] at h)
  have HX16:Hid (Below (bc+1) w1 w16):=Lib.hid (HX15.out.trans (hB16.mono (HSZ.out w15 HX15.out)))
  obtain⟨w17,e17,hs17,hb17,hc17⟩:=boxed w16 #[.slice ay ly cy,.int .i64 sy] 30
  have hB1517:=hB16.trans (hb17.mono hB16.size)
  have HX17:Hid (Below (bc+1) w1 w17):=Lib.hid (HX16.out.trans (hb17.mono (HSZ.out w16 HX16.out)))
  have H817:Hid (Below (w7.heap.size+1) w8 w17):=Lib.hid (H815.out.trans (hB1517.mono (by have:=H815.out.size;have:=HS8.out;omega)))
  have HN17:=Lib.hid ((HNU.out.keep HN15.out).keep hB1517)
  have HNX17:=Lib.hid (HNX15.out.keep hB1517)
  have HXC17:=Lib.hid ((hB1517.block w12.heap.size ((Array.getElem?_eq_some_iff.1 HXC15.out).1)).trans HXC15.out)
  have HNY17:=Lib.hid (hny.keep hb17)
  have HYC17:Hid (w17.heap[w16.heap.size]? =some (.cells #[.slice ay ly cy,.int .i64 sy] 30 (0,0))):=Lib.hid (by rw[e17];exact World.alloc_heap_new _ _)
  have E17:=Lib.hid e17
  clear e17 hs17 hb17 hc17 hB1517 hny hB16 hcd k15 HEN2 HXC15 HNX15 HN15 H815 HR15
  go_upto_region 15 with fail
  rw[←E17.out]
  clear E17
  have xc:=HC8.out w17 H817.out 0
  simp only[List.getElem?_toArray,List.getElem?_cons_succ,List.getElem?_cons_zero] at xc
  have xx:w17.cell? ⟨w12.heap.size,0,none⟩=some (.slice ax lx cx):=by simp[World.cell?,HXC17.out]
  have xy:w17.cell? ⟨w16.heap.size,0,none⟩=some (.slice ay ly cy):=by simp[World.cell?,HYC17.out]
  have HCM:Hid (ly=(X.codeR l (tr y) [] .nil).length∧lx=(X.codeR l (tr y) [0] (trs [y])).length∧lx≤cx):=Lib.hid (by
   obtain⟨g1,d1,q1, -, -,q4, -⟩:=HNX17.out
   obtain⟨g2,d2,q2, -⟩:=HNY17.out
   simp only[Value.slice.injEq] at q1 q2
   exact⟨q2.2.1,q1.2.1,by omega⟩)
  obtain⟨m,hm⟩:∃m,(tr y).code.length=m:=⟨_,rfl⟩
  have HM:Hid (lx=ly+1+m∧1≤m∧lx≤20000):=Lib.hid (by
   have h1:=HEN.out.len
   have h2:=HEN.out.pos
   have h3:=HEN.out.one
   have h4:=HCM.out
   omega)
  obtain⟨p1,hp1⟩:=HEN.out.end1
  obtain⟨p2,hp2⟩:=HEN.out.endc
  have hcne:(tr y).code≠[]:=fun h=>by have:=HM.out.2.1;rw[h] at hm;simp at hm;omega
  have HTX:Hid (lx=p1.length+m∧∃b o,ax=some ⟨b,o,none⟩∧Nums w17 (.slice (some ⟨b,o+p1.length,none⟩) m (cx - p1.length)) (tr y).code):=Lib.hid (by
   have h:=HNX17.out.nums
   rw[hp1] at h
   have h2:=nums_tail h hcne
   rw[List.length_append,hm] at h2
   exact h2)
  have HTC:Hid (ln=p2.length+m∧∃b o,az=some ⟨b,o,none⟩∧Nums w17 (.slice (some ⟨b,o+p2.length,none⟩) m (cz - p2.length)) (tr y).code):=Lib.hid (by
   have h:=HN17.out
   have e:(ElA.tree ⟨op,nm,v,bd,args,a,c⟩)=Fs.cons op nm v bd args .nil:=rfl
   rw[e,hp2] at h
   have h2:=nums_tail h hcne
   rw[List.length_append,hm] at h2
   exact h2)
  obtain⟨e1,bx,ox,rfl,hnx⟩:=HTX.out
  obtain⟨e2,bz,oz,rfl,hnz⟩:=HTC.out
  have HNXT:=Lib.hid hnx
  have HNZT:=Lib.hid hnz
  have hcx:p1.length+m≤cx:=by have:=HCM.out.2.2;omega
  have hcz:p2.length+m≤cz:=by have:=HCAP.out;omega
  have hly:ly+1=p1.length:=by have:=HM.out;omega
  have hm1:1≤m:=HM.out.2.1
  have hlx:p1.length+m≤20000:=by have:=HM.out;omega
  have hln:p2.length+m≤20000:=by
   have h:=HL20.out
   have e:(ElA.tree ⟨op,nm,v,bd,args,a,c⟩)=Fs.cons op nm v bd args .nil:=rfl
   rw[e,hp2,List.length_append,hm] at h
   exact h
  have HMC:Hid ((tr y).code.length≤20000):=Lib.hid (by omega)
  clear hp1 hp2 hcne hnx hnz HTX HTC HM HCM HNX17 HNY17 HN17 HXC17 HYC17
  subst e1 e2
  generalize hpl1:p1.length=n1 at*
  generalize hpl2:p2.length=n2 at*
  subst hly
  go_cut [16] from 82 to 89 (fun x wx=>x=.int .i64 (m:Int)∧wx=w17)
  case first=>
   go_wp2_with fail
   go_meet
   case rel=>exact⟨by congr 1;omega,rfl⟩
  case rest=>
   obtain⟨rfl,hw⟩:=hcut
   obtain rfl:=hw.symm
   have d1:decide ((m:Int)<1)=false:=by simp;omega
   have d2:decide (((n2+m:Nat):Int)<(m:Int))=false:=by simp;omega
   go_upto_region 18 with fail
   have q:∀n,Calls Tryz.prog 18 #[.slice (some ⟨bz,oz+n2,none⟩) m (cz - n2),.slice (some ⟨bx,ox+(ly+1),none⟩) m (cx - (ly+1))] (w17.drewN n) fun e w'=>e=.returned (.bool true)∧∃m',w'=(w17.drewN n).drewN m':=fun n=>by
    have h:=ints18 (w17.drewN n) (HNZT.out.drawn n) (HNXT.out.drawn n) (by have:=HMC.out;omega) (by have:=HMC.out;omega)
    rw[same_of rfl] at h
    exact h
   go_quiet ((first|(go_at_call 18;with_reducible exact Calls.quiet_of (q _))))
   rename_i nq
   clear q
   go_wp2_with fail
   go_ret
   exact⟨rfl,HUP.out _ (Below.drewN' HX17.out nq)⟩
end
end Go.Proofs.YtckdgniecdfedaaGreatDoor
