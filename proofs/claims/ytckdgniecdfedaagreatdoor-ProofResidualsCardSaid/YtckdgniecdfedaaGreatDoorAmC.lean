/- The steps of the plain machine answer as the model: slices and strings. -/
import Derived.Test.YtckdgniecdfedaaGreatDoorAmB
import Derived.Laws.Slices
import Derived.Laws.AppendOwn
section
namespace Go.AM
section
variable {P:Program} {ι:Inj} {m:Mem} {w:World} {A B:Value} {a b:AV} {t:TypeId} {g:G}
section
variable {lo hi:Option AV} {LO HI:Option Value} (hlo:OptRel ι lo LO) (hhi:OptRel ι hi HI)
include hlo hhi
theorem sliceArr_ok (hg:GOk P g) (hr:Rel P ι m w) {e:TypeId} {s b o n:Nat} {f:AV→Mem→R} (hd:g.desc t=.array n e) (hs:g.size e=some s) (ha:conc ι (.ptr b o)=some A)
  (h:sliceArr s b o n lo hi m f=.ok):Out P ι m w f ((Instr.sliceAt t A LO HI none).run P w):=by
 unfold sliceArr at h
 obtain⟨i,h1,h2⟩:=boundK_ok hhi h
 obtain⟨l,h3,h4⟩:=boundK_ok hlo h1
 obtain⟨h5,h6⟩:=ifB_ok h3
 obtain⟨h7,h8⟩:=ifB_ok h6
 rw[forceN_eq,forceN_eq] at h8
 simp only[Nat.sub_eq,Nat.add_eq,Nat.mul_eq] at h8
 have hli:=Nat.le_of_ble_eq_true h5
 have hin:=Nat.le_of_ble_eq_true h7
 obtain⟨p,hp,rfl⟩:=conc_ptr ha
 have hu:=hg.run_desc hd (by simp) w
 have hsz:=hg.run_size hs w
 have hb:=sliceBounds_run (P:=P) (w:=w) (isSlice:=false) (len:=n) (cap:=n) (h:=i) (l:=l) (lo:=LO) (hi:=HI) h2 h4 hli hin
 have hrun:(Instr.sliceAt t (.pointer (some ⟨p.blk,p.delta+o,none⟩)) LO HI none).run P w=
   .ok (.slice (some (if n=l then⟨p.blk,p.delta+o,none⟩ else⟨p.blk,p.delta+(o+l*s),none⟩)) (i - l) (n - l)) w:=by
  simp only[Instr.sliceAt,Sem.run_bind,hu,Result.andThen_ok,Instr.sureAddr,hb,hsz,Sem.run_pure,add_plain,Nat.add_assoc]
 rw[iteB_eq] at h8
 split at h8<;>rename_i hc
 ·have hc:=Nat.eq_of_beq_eq_true hc
  refine OutP.out hr (.mk' h8 (by simp[conc,hp];rfl) ?_)
  rw[hrun,if_pos (by omega),hc]
 ·have hc:n - l≠0:=fun e=>hc (by rw[e];rfl)
  rw[forceN_eq] at h8
  refine OutP.out hr (.mk' h8 (by simp[conc,hp];rfl) ?_)
  rw[hrun,if_neg (by omega)]
theorem sliceK_ok (hg:GOk P g) (hr:Rel P ι m w) {f:AV→Mem→R} (ha:conc ι a=some A) (h:sliceK g t a lo hi m f=.ok):Out P ι m w f ((Instr.sliceAt t A LO HI none).run P w):=by
 unfold sliceK at h
 split at h<;>first|(cases h;done)|skip
 ·split at h<;>first|(cases h;done)|skip
  rename_i hd
  rw[conc_str ha]
  exact sliceStr_ok hlo hhi hg hr hd h
 ·split at h<;>first|(cases h;done)|skip
  rename_i e hd
  obtain⟨s,hs,h0⟩:=optK_ok h
  obtain⟨i,h1,h2⟩:=boundK_ok hhi h0
  obtain⟨l,h3,h4⟩:=boundK_ok hlo h1
  obtain⟨h5,h6⟩:=ifB_ok h3
  obtain⟨h7,h8⟩:=ifB_ok h6
  have e1:=Nat.eq_of_beq_eq_true h5
  have e2:=Nat.eq_of_beq_eq_true h7
  subst e1 e2
  have hu:=hg.run_desc hd (by simp) w
  have hsz:=hg.run_size hs w
  have hb:=sliceBounds_run (P:=P) (w:=w) (isSlice:=true) (len:=0) (cap:=0) (h:=0) (l:=0) (lo:=LO) (hi:=HI) h2 h4 (Nat.le_refl _) (Nat.le_refl _)
  rw[conc_nils ha]
  refine OutP.out hr (.mk' h8 (V:=.slice none 0 0) (by simp[conc]) ?_)
  simp[Instr.sliceAt,hu,Instr.slice,hb,hsz]
 ·split at h<;>first|(cases h;done)|skip
  rename_i e hd
  obtain⟨s,hs,h0⟩:=optK_ok h
  exact sliceSl_ok hlo hhi hg hr hd hs ha h0
 ·split at h<;>first|(cases h;done)|skip
  rename_i e hd
  obtain⟨s,hs,h0⟩:=optK_ok h
  obtain⟨i,h1,h2⟩:=boundK_ok hhi h0
  obtain⟨l,h3,h4⟩:=boundK_ok hlo h1
  obtain⟨h5,h6⟩:=ifB_ok h3
  obtain⟨h7,h8⟩:=ifB_ok h6
  have e1:=Nat.eq_of_beq_eq_true h5
  have e2:=Nat.eq_of_beq_eq_true h7
  subst e1 e2
  have hu:=hg.run_desc hd (by simp) w
  have hsz:=hg.run_size hs w
  obtain⟨p,hp,he⟩:=conc_dead ha
  have hb:=fun cp=>sliceBounds_run (P:=P) (w:=w) (isSlice:=true) (len:=0) (cap:=cp) (h:=0) (l:=0) (lo:=LO) (hi:=HI) h2 h4 (Nat.le_refl _) (Nat.zero_le _)
  refine OutP.out hr (.mk' h8 ha ?_)
  rw[he]
  simp only[Instr.sliceAt,Sem.run_bind,hu,Result.andThen_ok,Instr.slice,hb,hsz,Sem.run_pure,Option.map_some,Nat.zero_mul,Nat.sub_zero]
  split<;>split<;>simp[add_plain]
 ·split at h<;>first|(cases h;done)|skip
  rename_i n e hd
  obtain⟨s,hs,h0⟩:=optK_ok h
  exact sliceArr_ok hlo hhi hg hr hd hs ha h0
end
theorem elemSize_slice {s:Nat} (h:elemSize g t=some s) (hi:isSlice g t=true):∃e,g.desc t=.slice e∧g.size e=some s:=by
 unfold elemSize isSlice at*
 split at hi<;>first|(cases hi;done)|skip
 rename_i e hd
 rw[hd] at h
 exact⟨e,hd,h⟩
theorem elemSize_array {s n:Nat} (h:elemSize g t=some s) (hi:arrLen g t=some n):∃e,g.desc t=.array n e∧g.size e=some s:=by
 unfold elemSize arrLen at*
 split at hi<;>first|(cases hi;done)|skip
 rename_i e hd
 rw[hd] at h
 injection hi with hi;subst hi
 exact⟨_,hd,h⟩
theorem indexAddrK_ok (hg:GOk P g) {f:AV→R} (ha:conc ι a=some A) (hb:conc ι b=some B) (h:indexAddrK g t a b f=.ok):OutP P ι w f ((Instr.indexAt t A B).run P w):=by
 obtain⟨k,i,rfl,h1⟩:=asNatK_ok h
 rw[conc_int hb]
 cases a<;>first|(cases h1;done)|skip
 ·rename_i bl o
  obtain⟨p,hp,rfl⟩:=conc_ptr ha
  obtain⟨n,h2,h3⟩:=optK_ok (h1:idxArr g t bl o i f=.ok)
  obtain⟨h4,h5⟩:=ifB_ok h3
  obtain⟨s,h6,h7⟩:=optK_ok h5
  rw[forceN_eq] at h7
  obtain⟨e,hd,hs⟩:=elemSize_array h6 h2
  have hu:=hg.run_desc hd (by simp) w
  have hsz:=hg.run_size hs w
  have hin:i<n:=Nat.le_of_ble_eq_true h4
  refine .mk' h7 (by simp[conc,hp];rfl) ?_
  have hi':0≤(i:Int)∧(i:Int)<n:=by omega
  simp[Instr.indexAt,asIntOf,hu,Instr.sureAddr,hi',hsz,add_plain,Nat.add_assoc]
  intro h;omega
 ·rename_i bl o n c
  obtain⟨p,hp,rfl⟩:=conc_sl ha
  obtain⟨h4,h5⟩:=ifB_ok (h1:idxSl g t bl o n i f=.ok)
  obtain⟨h2,h3⟩:=ifB_ok h5
  obtain⟨s,h6,h7⟩:=optK_ok h3
  rw[forceN_eq] at h7
  obtain⟨e,hd,hs⟩:=elemSize_slice h6 h2
  have hu:=hg.run_desc hd (by simp) w
  have hsz:=hg.run_size hs w
  have hin:i<n:=Nat.le_of_ble_eq_true h4
  refine .mk' h7 (by simp[conc,hp];rfl) ?_
  have hi':0≤(i:Int)∧(i:Int)<n:=by omega
  simp[Instr.indexAt,asIntOf,hu,hi',hsz,add_plain,Nat.add_assoc]
  intro h;omega
theorem fieldOff_ok {i d:Nat} (h:fieldOff g t i=some d):∃fs fd s,g.desc t=.struct fs∧fs[i]? =some fd∧g.size fd.type=some s∧1≤s∧fd.offset=d:=by
 unfold fieldOff at h
 split at h<;>first|(cases h;done)|skip
 rename_i fd hfd
 split at h<;>first|(cases h;done)|skip
 rename_i s hs
 unfold fieldOf at hfd
 split at hfd<;>first|(cases hfd;done)|skip
 rename_i fs hd
 exact⟨fs,fd,_,hd,hfd,hs,by omega,by simpa using h⟩
theorem fieldAddrK_ok (hg:GOk P g) {i:Nat} {f:AV→R} (ha:conc ι a=some A) (h:fieldAddrK g t a i f=.ok):OutP P ι w f ((Instr.fieldAt t A i).run P w):=by
 cases a<;>first|(cases h;done)|skip
 rename_i bl o
 obtain⟨p,hp,rfl⟩:=conc_ptr ha
 obtain⟨d,h2,h3⟩:=optK_ok (h:optK 0 (fieldOff g t i) (fun d=>forceN (Nat.add o d) fun o=>f (.ptr bl o))=.ok)
 rw[forceN_eq] at h3
 obtain⟨fs,fd,s,hd,hfd,hs,hs1,rfl⟩:=fieldOff_ok h2
 have hu:=hg.run_desc hd (by simp) w
 have hsz:=hg.run_size hs w
 refine .mk' h3 (by simp[conc,hp];rfl) ?_
 have hs0:s≠0:=by omega
 simp[Instr.fieldAt,hu,hfd,Instr.sureAddr,fieldPlace,hsz,hs0,add_plain,Nat.add_assoc]
theorem partK_ok (hg:GOk P g) {cs:List AV} {L:List Value} {off:Nat} {f:AV→R} (hL:concL ι cs=some L) (h:partK g t cs off f=.ok):OutP P ι w f ((part t L.toArray off).run P w):=by
 obtain⟨s,hs,h1⟩:=optK_ok h
 have hagg:=hg.run_agg (t:=t) (G.size_desc hs) w
 have hsz:=hg.run_size hs w
 unfold loadCells at h1
 rw[iteB_eq] at h1
 split at h1<;>rename_i ha
 ·obtain⟨h2,h3⟩:=dropK_ok h1
  obtain⟨h4,h5⟩:=takeK_ok h3
  refine .mk' h5 (V:=.agg ((L.drop off).take s).toArray) (by simp[conc,concL_take (concL_drop hL off) s]) ?_
  simp[part,hagg,ha,hsz]
 ·obtain⟨v,h2,h3⟩:=nthK_ok h1
  obtain⟨V,h4,h5⟩:=concL_get hL h2
  simp only[Bool.not_eq_true] at ha
  refine .mk' h3 h4 ?_
  simp[part,hagg,ha,h5]
theorem fieldK_ok (hg:GOk P g) {cs:List AV} {i:Nat} {fd:Field} {f:AV→R} (ha:conc ι (.agg cs)=some A) (hfd:fieldOf g t i=some fd) (h:partK g fd.type cs fd.offset f=.ok):OutP P ι w f ((Instr.field t A i).run P w):=by
 obtain⟨L,hL,rfl⟩:=conc_agg ha
 obtain⟨v,V,h1,h2,h3⟩:=partK_ok (w:=w) hg hL h
 unfold fieldOf at hfd
 split at hfd<;>first|(cases hfd;done)|skip
 rename_i fs hd
 have hu:=hg.run_desc hd (by simp) w
 refine .mk' h1 h2 ?_
 simp[Instr.field,hu,hfd,asAgg,h3]
theorem indexK_ok (hg:GOk P g) {f:AV→R} (ha:conc ι a=some A) (hb:conc ι b=some B) (h:indexK g t a b f=.ok):OutP P ι w f ((Instr.index t A B).run P w):=by
 obtain⟨k,i,rfl,h1⟩:=asNatK_ok h
 rw[conc_int hb]
 split at h1<;>first|(cases h1;done)|skip
 ·rename_i s
  split at h1<;>first|(cases h1;done)|skip
  rename_i hd
  obtain⟨x,h2,h3⟩:=nthK_ok h1
  rw[forceN_eq] at h3
  have hlt:i<s.length:=by
   rcases Nat.lt_or_ge i s.length with h|h
   ·exact h
   ·rw[List.getElem?_eq_none h] at h2;cases h2
  rw[conc_str ha]
  have hrun:=run_index_string (P:=P) w t ⟨s.toArray⟩ k (i:Int) (hg.desc hd (by simp))
  have hx:s[i]=x:=by rw[List.getElem?_eq_getElem hlt] at h2;injection h2
  refine .mk' h3 (V:=.int .u8 x.toNat) (by simp[conc]) ?_
  rw[hrun,dif_pos ⟨by omega,by rw[str_size];omega⟩]
  congr 3
  rw[←hx]
  rfl
 ·rename_i cs
  split at h1<;>first|(cases h1;done)|skip
  rename_i n e hd
  obtain⟨L,hL,rfl⟩:=conc_agg ha
  obtain⟨h2,h3⟩:=ifB_ok h1
  obtain⟨s,h4,h5⟩:=optK_ok h3
  have hu:=hg.run_desc hd (by simp) w
  have hsz:=hg.run_size h4 w
  obtain⟨v,V,k1,k2,k3⟩:=partK_ok (w:=w) hg hL h5
  have hin:i<n:=Nat.le_of_ble_eq_true h2
  have hi':0≤(i:Int)∧(i:Int)<n:=by omega
  refine .mk' k1 k2 ?_
  simp[Instr.index,asIntOf,hu,hi',hsz]
  rw[if_pos hin]
  exact k3
theorem isSlice_ok (h:isSlice g t=true):∃e,g.desc t=.slice e:=by
 unfold isSlice at h;split at h<;>first|(cases h;done)|exact⟨_,by assumption⟩
theorem isString_ok (h:isString g t=true):g.desc t=.string:=by
 unfold isString at h;split at h<;>first|(cases h;done)|assumption
theorem isMap_ok (h:isMap g t=true):∃k e,g.desc t=.map k e:=by
 unfold isMap at h;split at h<;>first|(cases h;done)|exact⟨_,_,by assumption⟩
theorem EntsRel.length:∀ {es:List Ent} {Es:List MapEntry},EntsRel ι es Es→Es.length=es.length
 |[],[],_=>rfl
 |[],_::_,h=>h.elim
 |_::_,[],h=>h.elim
 |_::_,_::_,h=>by simp[h.2.length]
theorem lenB_ok (hg:GOk P g) (hr:Rel P ι m w) {f:AV→R} (ha:conc ι a=some A) (h:lenB g t a m f=.ok) {ts:Array TypeId} {args:Array Value} (ht:ts[0]? =some t) (hargs:args[0]? =some A) (ty:TypeId):
  OutP P ι w f ((Builtin.len_ ts ty args).run P w):=by
 have other:lenOther g t f=.ok→OutP P ι w f ((Builtin.len_ ts ty args).run P w):=fun h0=>by
  obtain⟨n,h1,h2⟩:=optK_ok h0
  unfold arrLen at h1
  split at h1<;>first|(cases h1;done)|skip
  rename_i n' e hd
  injection h1 with h1;subst h1
  have hu:=hg.run_desc hd (by simp) w
  refine .mkInt h2 (n':=n') ?_
  simp[Builtin.len_,ht,hargs,hu,goInt]
 cases a<;>first|(exact other h)|skip
 ·rename_i s
  obtain⟨h1,h2⟩:=ifB_ok h
  rw[lenK_eq] at h2
  have hu:=hg.run_desc (isString_ok h1) (by simp) w
  rw[conc_str ha] at hargs
  refine .mkInt h2 (n':=s.length) ?_
  simp[Builtin.len_,ht,hargs,hu,goInt,str_size]
 ·rename_i b o n c
  obtain⟨h1,h2⟩:=ifB_ok h
  obtain⟨e,hd⟩:=isSlice_ok h1
  have hu:=hg.run_desc hd (by simp) w
  obtain⟨p,hp,rfl⟩:=conc_sl ha
  refine .mkInt h2 (n':=n) ?_
  simp[Builtin.len_,ht,hargs,hu,goInt]
 ·obtain⟨h1,h2⟩:=ifB_ok h
  obtain⟨e,hd⟩:=isSlice_ok h1
  have hu:=hg.run_desc hd (by simp) w
  rw[conc_nils ha] at hargs
  refine .mkInt h2 (n':=0) ?_
  simp[Builtin.len_,ht,hargs,hu,goInt]
 ·rename_i b
  obtain⟨h1,h2⟩:=ifB_ok h
  obtain⟨k,e,hd⟩:=isMap_ok h1
  have hu:=hg.run_desc hd (by simp) w
  obtain⟨p,hp,rfl⟩:=conc_mp ha
  obtain⟨x,h3,h4⟩:=T.getK_ok (h2:m.t.getK b _=.ok)
  split at h4<;>first|(cases h4;done)|skip
  rename_i es cl
  rw[lenK_eq] at h4
  obtain⟨E,k1,k2,k3⟩:=blkOf hr h3 hp
  refine .mkInt h4 (n':=es.length) ?_
  have hl:=k2.length
  simp only[Array.length_toList] at hl
  have hget:(getObj p.blk).run P w=.ok (.map E cl) w:=by simp[getObj,Sem.run,k1]
  simp[Builtin.len_,ht,hargs,hu,goInt,hget,hl]
 ·obtain⟨h1,h2⟩:=ifB_ok h
  obtain⟨k,e,hd⟩:=isMap_ok h1
  have hu:=hg.run_desc hd (by simp) w
  rw[conc_nilm ha] at hargs
  refine .mkInt h2 (n':=0) ?_
  simp[Builtin.len_,ht,hargs,hu,goInt]
 ·obtain⟨h1,h2⟩:=ifB_ok h
  obtain⟨e,hd⟩:=isSlice_ok h1
  have hu:=hg.run_desc hd (by simp) w
  obtain⟨_,_,_,rfl⟩:=conc_dead' ha
  refine .mkInt h2 (n':=0) ?_
  simp[Builtin.len_,ht,hargs,hu,goInt]
theorem ifaceOk_ok (hg:GOk P g) (h:ifaceOk g t=true):(Instr.makeInterface t A).run P w=.ok (.iface t A) w:=by
 unfold ifaceOk at h
 split at h<;>first|(cases h;done)|skip
 rename_i n1 n2
 have hd:g.desc t≠.invalid:=fun e=>n2 e
 have hu:=hg.run_desc (d:=g.desc t) rfl hd w
 simp only[Instr.makeInterface,Sem.run_bind,hu,Result.andThen_ok]
 generalize hq:g.desc t=d at*
 cases d<;>first|rfl|(exact absurd rfl (n1 _))
theorem extract_ok {i:Nat} {vs:List AV} {f:AV→R} (ha:conc ι (.tup vs)=some A) (h:nthK vs i f=.ok):OutP P ι w f ((Instr.extract A i).run P w):=by
 obtain⟨L,hL,rfl⟩:=conc_tup ha
 obtain⟨v,h1,h2⟩:=nthK_ok h
 obtain⟨V,h3,h4⟩:=concL_get hL h1
 refine .mk' h2 h3 ?_
 simp[Instr.extract,h4]
theorem unK_ok {op:UnOp} {f:AV→R} (ha:conc ι a=some A) (h:unK op a f=.ok):OutP P ι w f ((Op.unary op A).run P w):=by
 unfold unK at h
 split at h<;>first|(cases h;done)|skip
 ·rename_i b
  rw[retB_ok] at h
  rw[conc_bool ha]
  exact .mk' h (V:=.bool (!b)) (by simp[conc]) (by simp[Op.unary])
 ·rename_i k n
  have h1:=wrapK_ok ((forceI_eq _ _).symm.trans h)
  rw[conc_int ha]
  refine .mkInt h1 (n':=k.wrap (0 - n)) (by simp[Op.unary,Op.intArith]) ?_
  rw[Int.zero_sub];rfl
theorem nilCheckK_ok {o:Oper} {x:Operand} {ρ:Operand→Value} {f:AV→R} (ho:o.op=.nilCheck x) (ha:conc ι a=some (ρ x)) (h:nilCheckK a f=.ok):f a=.ok∧(execOp ρ o).run P w=.ok (.value (ρ x)) w:=by
 have done:f a=.ok→(∀(n:String) (u v:Array Value),ρ x≠.func (.method n) u v)→ρ x≠.pointer none→ρ x≠.nilIface→ρ x≠.nilFunc→f a=.ok∧(execOp ρ o).run P w=.ok (.value (ρ x)) w:=fun h0 n1 n2 n3 n4=>by
  refine⟨h0,?_⟩
  simp only[execOp,ho]
  generalize ρ x=X at*
  cases X<;>first|rfl|(exact absurd rfl n3)|(exact absurd rfl n4)|skip
  all_goals (first|(rename_i p;cases p<;>first|rfl|exact absurd rfl n2;done)|(rename_i fn u v;cases fn<;>first|rfl|exact absurd rfl (n1 _ _ _);done))
 cases a<;>first|(cases h;done)|skip
 case bool=>have e:=conc_bool ha;exact done h (by simp[e]) (by simp[e]) (by simp[e]) (by simp[e])
 case int=>have e:=conc_int ha;exact done h (by simp[e]) (by simp[e]) (by simp[e]) (by simp[e])
 case str=>have e:=conc_str ha;exact done h (by simp[e]) (by simp[e]) (by simp[e]) (by simp[e])
 case ptr=>obtain⟨_,_,e⟩:=conc_ptr ha;exact done h (by simp[e]) (by simp[e]) (by simp[e]) (by simp[e])
 case sl=>obtain⟨_,_,e⟩:=conc_sl ha;exact done h (by simp[e]) (by simp[e]) (by simp[e]) (by simp[e])
 case dead=>obtain⟨_,_,_,e⟩:=conc_dead' ha;exact done h (by simp[e]) (by simp[e]) (by simp[e]) (by simp[e])
 case nils=>have e:=conc_nils ha;exact done h (by simp[e]) (by simp[e]) (by simp[e]) (by simp[e])
 case mp=>obtain⟨_,_,e⟩:=conc_mp ha;exact done h (by simp[e]) (by simp[e]) (by simp[e]) (by simp[e])
 case nilm=>have e:=conc_nilm ha;exact done h (by simp[e]) (by simp[e]) (by simp[e]) (by simp[e])
 case ifc=>obtain⟨_,_,e⟩:=conc_ifc ha;exact done h (by simp[e]) (by simp[e]) (by simp[e]) (by simp[e])
 case agg=>obtain⟨_,_,e⟩:=conc_agg ha;exact done h (by simp[e]) (by simp[e]) (by simp[e]) (by simp[e])
 case tup=>obtain⟨_,_,e⟩:=conc_tup ha;exact done h (by simp[e]) (by simp[e]) (by simp[e]) (by simp[e])
 case fn fn u v=>
  obtain⟨fn',_,_,h1,_,_,e⟩:=conc_fn ha
  have h0:nilCheckFn fn (.fn fn u v) f=.ok:=h
  cases fn<;>first|(cases h0;done)|skip
  all_goals
   simp only[concFn,Option.map_eq_some_iff,Option.some.injEq] at h1
   first|(obtain⟨_,_,rfl⟩:=h1)|subst h1
   exact done h0 (by simp[e]) (by simp[e]) (by simp[e]) (by simp[e])
end
end Go.AM
end
section
namespace Go.AM
section
variable {P:Program} {ι:Inj} {m:Mem} {w:World} {A B:Value} {a b:AV} {t:TypeId} {g:G}
theorem mapK_ok {α β:Type} {gg:α→(β→R)→R} {Q:α→β→Prop} (hq:∀a k,gg a k=.ok→∃b,k b=.ok∧Q a b):∀ {l:List α} {f:List β→R},mapK gg l f=.ok→
  ∃r,f r=.ok∧r.length=l.length∧∀(i:Nat) a b,l[i]? =some a→r[i]? =some b→Q a b
 |[],f,h=>⟨[],h,rfl,by simp⟩
 |a::l,f,h=>by
  obtain⟨b,h1,h2⟩:=hq a _ (h:gg a (fun b=>mapK gg l fun l=>f (b::l))=.ok)
  obtain⟨r,h3,h4,h5⟩:=mapK_ok hq h1
  refine⟨b::r,h3,by simp[h4],fun i x y hx hy=>?_⟩
  cases i with
  |zero=>simp at hx hy;subst hx hy;exact h2
  |succ i=>exact h5 i x y (by simpa using hx) (by simpa using hy)
theorem cellsOfK_pre (hr:Rel P ι m w) {s:Nat} {f:Nat→List AV→R} (ha:conc ι a=some A) (h:cellsOfK s m a f=.ok):
  ∃n l L,f n l=.ok∧concL ι l=some L∧l.length=n*s∧∀w':World,w'.heap=w.heap→(Builtin.lenOf A).run P w'=.ok n w'∧∀k,k≤n→(Builtin.firstCells s k A).run P w'=.ok (L.take (k*s)).toArray w':=by
 unfold cellsOfK at h
 split at h<;>first|(cases h;done)|skip
 ·rw[conc_nils ha]
  exact⟨0,[],[],h,by simp[concL],by simp,fun w' _=>⟨by simp[Builtin.lenOf],fun k _=>by simp[Builtin.firstCells]⟩⟩
 ·obtain⟨_,_,_,rfl⟩:=conc_dead' ha
  exact⟨0,[],[],h,by simp[concL],by simp,fun w' _=>⟨by simp[Builtin.lenOf],fun k hk=>by simp[Nat.le_zero.1 hk,Builtin.firstCells,Go.loadCells,loadCellsFrom]⟩⟩
 ·rename_i b o n c
  obtain⟨p,hp,rfl⟩:=conc_sl ha
  rw[iteB_eq] at h
  split at h<;>rename_i hn
  ·have hn:=Nat.eq_of_beq_eq_true hn
   subst hn
   exact⟨0,[],[],h,by simp[concL],by simp,fun w' _=>⟨by simp[Builtin.lenOf],fun k hk=>by simp[Nat.le_zero.1 hk,Builtin.firstCells,Go.loadCells,loadCellsFrom]⟩⟩
  ·obtain⟨x,h1,h2⟩:=T.getK_ok (h:m.t.getK b _=.ok)
   split at h2<;>first|(cases h2;done)|skip
   rename_i c' e gr z
   obtain⟨h3,h4⟩:=dropK_ok h2
   obtain⟨h5,h6⟩:=takeK_ok h4
   obtain⟨L,k1,k2⟩:=blk_cells (blkOf hr h1 hp)
   have hl:=concL_take (concL_drop k1 o) (n*s)
   have hlen:=concL_length k1
   simp only[Nat.mul_eq] at h5 h6
   have hlen2:((L.drop o).take (n*s)).length=n*s:=by
    simp at h5
    simp;omega
   refine⟨n,_,(L.drop o).take (n*s),h6,hl,by simp at h5;simp;omega,fun w' hw'=>⟨by simp[Builtin.lenOf],fun k hk=>?_⟩⟩
   have hks:k*s≤n*s:=Nat.mul_le_mul_right _ hk
   have:=run_loadCells_list (P:=P) w' ⟨p.blk,p.delta+o,none⟩ ((L.drop o).take (k*s)) (fun j v hv=>by
    rw[add_plain]
    have hj:j<k*s:=by
     rcases Nat.lt_or_ge j (k*s) with h|h
     ·exact h
     ·rw[List.getElem?_eq_none (by simp;omega)] at hv;cases hv
    rw[List.getElem?_take,if_pos hj,List.getElem?_drop] at hv
    rw[Nat.add_assoc,show w'.cell? ⟨p.blk,p.delta+(o+j),none⟩=w.cell? ⟨p.blk,p.delta+(o+j),none⟩ by simp[World.cell?,hw'],k2 (o+j)]
    ·exact hv
    ·rcases Nat.lt_or_ge (o+j) L.length with h|h
     ·exact h
     ·rw[List.getElem?_eq_none h] at hv;cases hv)
   rw[show((L.drop o).take (k*s)).length=k*s by simp at hlen2 ⊢;omega] at this
   rw[List.take_take,Nat.min_eq_left hks]
   simpa[Builtin.firstCells] using this
 ·rename_i bs
  obtain⟨h0,h'⟩:=ifB_ok h
  have hs1:=Nat.eq_of_beq_eq_true h0
  subst hs1
  obtain⟨r,h1,h2,h3⟩:=mapK_ok (Q:=fun u v=>v=AV.int .u8 (u.toNat:Nat)) (fun u k hk=>⟨_,(forceN_eq _ _).symm.trans hk,rfl⟩) h'
  rw[lenK_eq] at h1
  rw[conc_str ha]
  have hr':r=bs.map fun u=>AV.int .u8 (u.toNat:Nat):=by
   apply List.ext_getElem?
   intro i
   rw[List.getElem?_map]
   by_cases hi:i<bs.length
   ·have hx:r[i]? =some r[i]:=List.getElem?_eq_getElem (by omega)
    have hb:bs[i]? =some bs[i]:=List.getElem?_eq_getElem hi
    rw[hx,hb,h3 i _ _ hb hx];rfl
   ·rw[List.getElem?_eq_none (by omega),List.getElem?_eq_none (by omega)];rfl
  have hconc:∀l:List UInt8,concL ι (l.map fun u=>AV.int .u8 (u.toNat:Nat))=some (l.map fun u=>Value.int .u8 (u.toNat:Nat)):=fun l=>by
   induction l with
   |nil=>simp[concL]
   |cons x l ih=>simp[concL,conc,ih]
  refine⟨r.length,r,bs.map fun u=>Value.int .u8 (u.toNat:Nat),h1,by rw[hr'];exact hconc bs,by omega,fun w' _=>⟨by simp[Builtin.lenOf,str_size,h2],fun k hk=>?_⟩⟩
  simp only[Builtin.firstCells,Sem.run_pure]
  congr 1
  apply Array.toList_inj.1
  simp[ByteArray.extract,ByteArray.copySlice,List.map_take]
theorem cellsOfK_ok (hr:Rel P ι m w) {s:Nat} {f:Nat→List AV→R} (ha:conc ι a=some A) (h:cellsOfK s m a f=.ok):
  ∃n l L,f n l=.ok∧concL ι l=some L∧l.length=n*s∧∀w':World,w'.heap=w.heap→(Builtin.lenOf A).run P w'=.ok n w'∧(Builtin.firstCells s n A).run P w'=.ok L.toArray w':=by
 obtain⟨n,l,L,h1,h2,h3,h4⟩:=cellsOfK_pre hr ha h
 refine⟨n,l,L,h1,h2,h3,fun w' hw'=>⟨(h4 w' hw').1,?_⟩⟩
 have:=(h4 w' hw').2 n (Nat.le_refl _)
 rwa[List.take_of_length_le (by rw[concL_length h2,h3];exact Nat.le_refl _)] at this
end
end Go.AM
end
section
namespace Go.AM
section
variable {P:Program} {ι:Inj} {m:Mem} {w w':World} {A B:Value} {a b:AV} {t:TypeId} {g:G}
theorem Step.rename (hr:Rel P ι m w) {b:Nat} {x x':Blk} {p q:Pl} (hb:m.t.find b b=some x) (hwx:x.writable=true) (hp:ι b=some p) {t1 t':T Blk}
  (ht1:∀c y,t1.find c c=some y→c≠b∧m.t.find c c=some y) (ht:t'.sub t1 m.next x') (hq:q.blk=p.blk)
  (hs:w'.heap.size=w.heap.size) (hw:∀k,k≠p.blk→w'.heap[k]? =w.heap[k]?) (hos:w'.os=w.os) (htp:w'.tape=w.tape) (hout:w'.output=w.output) (hx:BlkRel P (ι.set m.next q) q x' w'):
  Step P ι m w (ι.set m.next q) ⟨m.next+1,t'⟩ w':=by
 have hle:ι.le (ι.set m.next q):=Inj.le_set (hr.fresh _ (Nat.le_refl _))
 have hne:∀b x,m.t.find b b=some x→b≠m.next:=fun b x hx e=>by
  obtain⟨q,h1,_⟩:=hr.blk b x hx
  rw[e,hr.fresh _ (Nat.le_refl _)] at h1;cases h1
 have hback:∀b x,m.t.find b b=some x→∀r,(ι.set m.next q) b=some r→ι b=some r:=fun b x hx r hq=>by
  simp only[Inj.set,if_neg (hne b x hx)] at hq;exact hq
 have hself:(ι.set m.next q) m.next=some q:=by simp[Inj.set]
 have hother:∀c y,m.t.find c c=some y→c≠b→∀r,ι c=some r→r.blk≠p.blk:=fun c y hy hc r hr' e=>hc (hr.apart b c x y p r hb hy hp hr' e.symm hwx).symm
 refine⟨hle,⟨fun c hc=>?_,fun g hg=>let⟨r,h1,h2⟩:=hr.low g hg;⟨r,hle _ _ h1,h2⟩,fun c y hy=>?_,fun c d y z r s hy hz hr' hs' he hwr=>?_⟩,by omega,fun k _ hn=>hw k fun e=>hn ⟨b,x,p,hb,hwx,hp,e.symm⟩,?_,hos,htp,hout,Nat.le_succ _,?_,?_⟩
 ·simp only[Inj.set]
  rw[if_neg (by simp at hc;omega)]
  exact hr.fresh c (by simp at hc;omega)
 ·rcases ht c y hy with⟨rfl,rfl⟩|⟨_,hy1⟩
  ·exact⟨q,hself,hx⟩
  ·obtain⟨hcb,hy'⟩:=ht1 c y hy1
   obtain⟨r,h1,h2⟩:=hr.blk c y hy'
   exact⟨r,hle _ _ h1,(h2.mono hle).at (hw _ (hother c y hy' hcb r h1))⟩
 ·rcases ht c y hy with⟨rfl,rfl⟩|⟨hc1,hy1⟩<;>rcases ht d z hz with⟨rfl,rfl⟩|⟨hd1,hz1⟩
  ·rfl
  ·obtain⟨hdb,hz'⟩:=ht1 d z hz1
   rw[hself] at hr';injection hr' with hr';subst hr'
   exact absurd (he.symm.trans hq) (hother d z hz' hdb s (hback d z hz' s hs'))
  ·obtain⟨hcb,hy'⟩:=ht1 c y hy1
   rw[hself] at hs';injection hs' with hs';subst hs'
   exact absurd (he.trans hq) (hother c y hy' hcb r (hback c y hy' r hr'))
  ·obtain⟨hcb,hy'⟩:=ht1 c y hy1
   obtain⟨hdb,hz'⟩:=ht1 d z hz1
   exact hr.apart c d y z r s hy' hz' (hback c y hy' r hr') (hback d z hz' s hs') he hwr
 ·rintro k _ ⟨c,y,r,hy,hwr,hr',e⟩
  rcases ht c y hy with⟨rfl,rfl⟩|⟨_,hy1⟩
  ·rw[hself] at hr';injection hr' with hr';subst hr'
   exact⟨b,x,p,hb,hwx,hp,hq▸e⟩
  ·obtain⟨_,hy'⟩:=ht1 c y hy1
   exact⟨c,y,r,hy',hwr,hback c y hy' r hr',e⟩
 ·intro c hc hn'
  simp only[Inj.set]
  rw[if_neg (by omega)];exact hn'
 ·rintro k _ ⟨c,y,r,hy,hr',e⟩
  rcases ht c y hy with⟨rfl,rfl⟩|⟨_,hy1⟩
  ·rw[hself] at hr';injection hr' with hr';subst hr'
   exact⟨b,x,p,hb,hp,hq▸e⟩
  ·obtain⟨_,hy'⟩:=ht1 c y hy1
   exact⟨c,y,r,hy',hback c y hy' r hr',e⟩
structure App (P:Program) (ts:Array TypeId) (args:Array Value) (t u e:TypeId) (ie:TypeInfo) (Z S X:Value):Prop where
 ts0:ts[0]? =some t
 ts1:ts[1]? =some u
 a0:args[0]? =some S
 a1:args[1]? =some X
 ht:P.underlying t=some (.slice e)
 hu:(∃d,P.underlying u=some (.slice d))∨P.underlying u=some .string
 hi:P.info? e=some ie
 hz:ie.zero=some Z
 zl:Z.cells.size=ie.size
 s1:1≤ie.size
variable {ts:Array TypeId} {args:Array Value} {u e ty:TypeId} {ie:TypeInfo} {Z S X:Value}
theorem append_fit {ad:Addr} {sLen sCap n:Nat} {NEW:List Value} (h:App P ts args t u e ie Z (.slice (some ad) sLen sCap) X) (hn:(Builtin.lenOf X).run P w=.ok n w)
  (hx:(Builtin.firstCells ie.size n X).run P w=.ok NEW.toArray w) (hfit:sLen+n≤sCap) (hst:(Go.storeCells (ad.add (sLen*ie.size)) NEW).run P w=.ok () w'):
  (Builtin.append_ ts ty args).run P w=.ok (.slice (some ad) (sLen+n) sCap) w':=by
 rcases h.hu with⟨d,hu⟩|hu<;>simp[Builtin.append_,h.ts0,h.ts1,h.a0,h.a1,run_underlying h.ht,run_underlying hu,sizeOf,typeInfo,h.hi,hn,hx,hfit,hst]
theorem append_new {base:Option Addr} {sLen sCap n:Nat} {OLD NEW:List Value} (h:App P ts args t u e ie Z (.slice base sLen sCap) X) (hn:(Builtin.lenOf X).run P w=.ok n w)
  (hx:∀k,(Builtin.firstCells ie.size n X).run P {w with drawn:=k}=.ok NEW.toArray {w with drawn:=k})
  (ho:∀k,(Builtin.firstCells ie.size sLen (.slice base sLen sCap)).run P {w with drawn:=k}=.ok OLD.toArray {w with drawn:=k}) (hfit:sCap<sLen+n)
  (hol:OLD.length=sLen*ie.size) (hnl:NEW.length=n*ie.size) (h1:sLen+n≤1099511627776) (h2:ie.bytes*(2*(sLen+n)+200)≤281474976710656):
  ∃(nc:Nat) (C:Array Value),(Builtin.append_ ts ty args).run P w=.ok (.slice (some ⟨w.heap.size,0,none⟩) (sLen+n) nc) {w.drew with heap:=w.heap.push (.cells C e)}∧sLen+n≤nc∧C.size=nc*ie.size∧
   ∀i,i<(OLD++NEW).length→C[i]? =(OLD++NEW)[i]? :=by
 have hn':¬(sLen+n≤sCap):=by omega
 have h63:¬(9223372036854775807<((sLen:Int)+(n:Int))):=by omega
 have hb:Builtin.nextslicecap (sLen+n) sCap*ie.bytes≤281474976710656:=by
  refine Nat.le_trans (Nat.mul_le_mul_right _ (nextslicecap_le hfit)) (Nat.le_trans ?_ h2)
  rw[Nat.mul_comm]
  exact Nat.mul_le_mul_left _ (by omega)
 have h48:¬(281474976710656<Builtin.nextslicecap (sLen+n) sCap*ie.bytes):=by omega
 have hge:=grownCap_ge w (sLen+n) sCap e
 have hx':(Builtin.firstCells ie.size n X).run P w.drew=.ok NEW.toArray w.drew:=hx _
 have ho':(Builtin.firstCells ie.size sLen (.slice base sLen sCap)).run P w.drew=.ok OLD.toArray w.drew:=ho _
 have hrun:(Builtin.append_ ts ty args).run P w=.ok (.slice (some ⟨w.heap.size,0,none⟩) (sLen+n) (grownCap w (sLen+n) sCap e))
   (w.drew.alloc (.cells (OLD.toArray++NEW.toArray++Builtin.zeroCells Z.cells (grownCap w (sLen+n) sCap e - (sLen+n))) e)):=by
  rcases h.hu with⟨d,hu⟩|hu<;>simp[Builtin.append_,h.ts0,h.ts1,h.a0,h.a1,run_underlying h.ht,run_underlying hu,sizeOf,typeInfo,zeroValue,h.hi,h.hz,hn,hn',h63,h48,Question.forced,hx',ho',newRow,grownCap]
  all_goals (congr 2;apply Array.ext';simp[List.append_assoc])
 refine⟨grownCap w (sLen+n) sCap e,OLD.toArray++NEW.toArray++Builtin.zeroCells Z.cells (grownCap w (sLen+n) sCap e - (sLen+n)),hrun,hge,?_,fun i hi=>?_⟩
 ·simp only[Builtin.zeroCells,Array.size_append,Array.size_map,Array.size_range,List.size_toArray,hol,hnl,h.zl,←Nat.add_mul]
  congr 1;omega
 ·rw[Array.getElem?_append_left (by simp at hi ⊢;omega)]
  simp
end
end Go.AM
end
section
namespace Go.AM
section
variable {P:Program} {ι:Inj} {m:Mem} {w w':World} {A B:Value} {a b:AV} {t:TypeId} {g:G} {ts:Array TypeId} {args:Array Value} {u e ty:TypeId} {ie:TypeInfo} {Z S X:Value}
theorem roomOk_ok {by' need:Nat} {k:R} (h:roomOk by' need k=.ok):k=.ok∧need≤1099511627776∧by'*(2*need+200)≤281474976710656:=by
 obtain⟨h1,h2⟩:=ifB_ok h
 obtain⟨h3,h4⟩:=ifB_ok h2
 exact⟨h4,Nat.le_of_ble_eq_true h1,Nat.le_of_ble_eq_true h3⟩
theorem append_move {m1:Mem} {ι1:Inj} (hst:Step P ι m w ι1 m1 w) {f:AV→Mem→R} {base:Option Addr} {sLen sCap n:Nat} {old new:List AV} {OLD NEW:List Value} {z:Nat}
  (hp:App P ts args t u e ie Z (.slice base sLen sCap) X) (hse:P.cellsOf e=ie.size) (hX:∀w':World,w'.heap=w.heap→(Builtin.lenOf X).run P w'=.ok n w'∧(Builtin.firstCells ie.size n X).run P w'=.ok NEW.toArray w')
  (hS:∀w':World,w'.heap=w.heap→(Builtin.firstCells ie.size sLen (.slice base sLen sCap)).run P w'=.ok OLD.toArray w') (hfit:sCap<sLen+n)
  (hold:concL ι1 old=some OLD) (hnew:concL ι1 new=some NEW) (hol:old.length=sLen*ie.size) (hnl:new.length=n*ie.size)
  (h1:sLen+n≤1099511627776) (h2:ie.bytes*(2*(sLen+n)+200)≤281474976710656)
  (h:newK m1 (.cells (old++new) e true z) (fun b m=>f (.sl b 0 (sLen+n) none) m)=.ok):Out P ι m w f ((Builtin.append_ ts ty args).run P w):=by
 obtain⟨nc,C,hrun,hnc,hC,hget⟩:=append_new (ty:=ty) hp (hX w rfl).1 (fun k=>(hX {w with drawn:=k} rfl).2) (fun k=>hS {w with drawn:=k} rfl) hfit (by rw[concL_length hold,hol]) (by rw[concL_length hnew,hnl]) h1 h2
 have hd:Step P ι1 m1 w ι1 m1 w.drew:=Step.drew hst.rel (w.drawn+1)
 obtain⟨ι',m',i1,i2,i3⟩:=Step.cells hd.rel (C:=C) (ncap:=nc) (sz:=ie.size) (concL_append hold hnew) hget (by simp) (fun _=>⟨hse.symm,hp.s1,hC⟩) h
 refine⟨_,_,ι',_,m',hrun,i1,(hst.trans hd).trans i2,?_⟩
 simp[conc,i3]
 exact hnc
theorem appendNew_ok (hr:Rel P ι m w) {f:AV→Mem→R} {sLen sCap n:Nat} {base:Option Addr} {new:List AV} {NEW:List Value} {by':Nat} (ha:conc ι a=some (.slice base sLen sCap))
  (hp:App P ts args t u e ie Z (.slice base sLen sCap) X) (hse:P.cellsOf e=ie.size) (hby:ie.bytes=by') (hX:∀w':World,w'.heap=w.heap→(Builtin.lenOf X).run P w'=.ok n w'∧(Builtin.firstCells ie.size n X).run P w'=.ok NEW.toArray w')
  (hfit:sCap<sLen+n) (hnew:concL ι new=some NEW) (hnl:new.length=n*ie.size)
  (h:appendNew e ie.size by' a (sLen+n) new m f=.ok):Out P ι m w f ((Builtin.append_ ts ty args).run P w):=by
 obtain⟨h1,h2,h3⟩:=roomOk_ok h
 obtain⟨k,old,OLD,h4,h5,h6,h7⟩:=cellsOfK_ok hr ha h1
 rw[appK_eq] at h4
 have hk:k=sLen:=by
  have:=(h7 w rfl).1
  simp[Builtin.lenOf] at this
  exact this.symm
 subst hk
 exact append_move (.refl hr) hp hse hX (fun w' hw'=>(h7 w' hw').2) hfit h5 hnew h6 hnl h2 (hby▸h3) h4
theorem appendRoom_ok (hr:Rel P ι m w) {f:AV→Mem→R} {bl o sLen c n:Nat} {new:List AV} {NEW:List Value} (ha:conc ι (.sl bl o sLen (some c))=some S)
  (hp:App P ts args t u e ie Z S X) (hX:∀w':World,w'.heap=w.heap→(Builtin.lenOf X).run P w'=.ok n w'∧(Builtin.firstCells ie.size n X).run P w'=.ok NEW.toArray w')
  (hfit:sLen+n≤c) (hnew:concL ι new=some NEW)
  (h:appendRoom ie.size bl o sLen (sLen+n) c new m f=.ok):Out P ι m w f ((Builtin.append_ ts ty args).run P w):=by
 obtain⟨p,hpl,rfl⟩:=conc_sl ha
 obtain⟨h1,h2⟩:=ifB_ok h
 obtain⟨x,h3,h4⟩:=T.getK_ok (h2:m.t.getK bl _=.ok)
 split at h4<;>first|(cases h4;done)|skip
 rename_i cs e' gr z
 obtain⟨h5,h6⟩:=ifB_ok h4
 obtain⟨h7,h8⟩:=spliceK_ok h6
 simp only[Nat.add_eq,Nat.mul_eq] at h7 h8
 obtain⟨w',m',k1,k2,k3⟩:=Step.store hr h3 h5 hpl hnew (concL_oneCell hnew h1) h7 (splice_length h7) (splice_get h7) h8
 refine⟨_,w',ι,_,m',append_fit hp (hX w rfl).1 (hX w rfl).2 hfit ?_,k2,k3,by simp[conc,hpl,capOf]⟩
 rw[add_plain,Nat.add_assoc]
 exact k1
theorem firstCells_run {p:Pl} {L:List Value} {o s n cap:Nat} (hL:∀i,i<L.length→w.cell? ⟨p.blk,p.delta+i,none⟩=L[i]?) (hlen:o+n*s≤L.length) {w':World} (hw':w'.heap=w.heap):
  (Builtin.firstCells s n (.slice (some ⟨p.blk,p.delta+o,none⟩) n cap)).run P w'=.ok ((L.drop o).take (n*s)).toArray w':=by
 have:=run_loadCells_list (P:=P) w' ⟨p.blk,p.delta+o,none⟩ ((L.drop o).take (n*s)) (fun j v hv=>by
  rw[add_plain]
  have hj:j<n*s:=by
   rcases Nat.lt_or_ge j (n*s) with h|h
   ·exact h
   ·rw[List.getElem?_eq_none (by simp;omega)] at hv;cases hv
  rw[List.getElem?_take,if_pos hj,List.getElem?_drop] at hv
  rw[Nat.add_assoc,show w'.cell? ⟨p.blk,p.delta+(o+j),none⟩=w.cell? ⟨p.blk,p.delta+(o+j),none⟩ by simp[World.cell?,hw'],hL (o+j) (by omega)]
  exact hv)
 rw[show((L.drop o).take (n*s)).length=n*s by simp;omega] at this
 simpa[Builtin.firstCells] using this
theorem appendGrow_ok (hr:Rel P ι m w) {f:AV→Mem→R} {bl o sLen n:Nat} {new:List AV} {NEW:List Value} {by':Nat} (ha:conc ι (.sl bl o sLen none)=some S)
  (hp:App P ts args t u e ie Z S X) (hse:P.cellsOf e=ie.size) (hby:ie.bytes=by') (hX:∀w':World,w'.heap=w.heap→(Builtin.lenOf X).run P w'=.ok n w'∧(Builtin.firstCells ie.size n X).run P w'=.ok NEW.toArray w')
  (hnew:concL ι new=some NEW) (hnl:new.length=n*ie.size)
  (h:appendGrow e ie.size by' bl o sLen (sLen+n) new m f=.ok):Out P ι m w f ((Builtin.append_ ts ty args).run P w):=by
 obtain⟨h1,h2,h3⟩:=roomOk_ok h
 obtain⟨h4,h5⟩:=ifB_ok h1
 obtain⟨h6,h7⟩:=ifB_ok h5
 obtain⟨x,h8,h9⟩:=T.getK_ok (h7:m.t.getK bl _=.ok)
 split at h9<;>first|(cases h9;done)|skip
 rename_i cs e' z
 obtain⟨h10,h11⟩:=ifB_ok h9
 obtain⟨h12,h13⟩:=ifB_ok h11
 obtain⟨h14,h15⟩:=dropK_ok h13
 obtain⟨h16,h17⟩:=takeK_ok h15
 rw[appK_eq] at h17
 obtain⟨h18,h19⟩:=ifB_ok h17
 obtain⟨t1,h20,h21⟩:=T.delK_ok (h19:m.t.delK bl _=.ok)
 obtain rfl:=Nat.eq_of_beq_eq_true h10
 have hz2:=Nat.le_of_ble_eq_true h12
 have hmod:o % ie.size=0:=Nat.eq_of_beq_eq_true h6
 simp only[Nat.mul_eq,List.length_drop] at h16
 obtain⟨p,hpl,rfl,hcp⟩:=conc_sl' ha
 have hcp:=hcp rfl
 simp only[capOf] at hp ⊢
 have hblk:=blkOf hr h8 hpl
 obtain⟨C,e2,fz,L,k1,k2,k3,k4,k5⟩:=hblk
 obtain⟨rfl, -,k7,k8⟩:=k5 (by omega)
 have k7:=k7 rfl
 obtain⟨k9,k10⟩:=k4 rfl
 have hsz:p.sz=ie.size:=k9.trans hse
 have hLl:=concL_length k2
 have hold:=concL_take (concL_drop k2 o) (sLen*ie.size)
 have hNl:=concL_length hnew
 have hol:((cs.drop o).take (sLen*ie.size)).length=sLen*ie.size:=by simp;omega
 have hodiv:o=o / p.sz*p.sz:=by
  have:=Nat.div_add_mod o p.sz
  rw[hsz] at this ⊢
  rw[Nat.mul_comm]
  omega
 by_cases hfit:sLen+n≤p.ncap - o / p.sz
 ·
  obtain⟨t',i1,i2⟩:=newK_ok h20
  have hroom:p.delta+o+(sLen*ie.size+n*ie.size)≤C.size:=by
   have h':(o / p.sz+(sLen+n))*p.sz≤p.ncap*p.sz:=Nat.mul_le_mul_right _ (by omega)
   rw[Nat.add_mul,Nat.add_mul,←hodiv,hsz] at h'
   rw[k7,hsz];omega
  have hfree:∀j,j<C.size→p.delta+o+sLen*ie.size≤j→¬(fz.1≤j∧j<fz.2):=fun j hj hjl=>by
   rcases(show z=0∨z=1∨z=2 by omega) with rfl|rfl|rfl
   ·rw[k8.1 rfl];simp
   ·rcases k8.2.1 rfl with h|h<;>rw[h]<;>simp;omega
   ·have hk:=k8.2.2 rfl
    have he:cs.length - o=sLen*ie.size:=by
     have:endOk 2 (cs.drop o) ((cs.drop o).take (sLen*ie.size))=true:=h18
     have:=Nat.eq_of_beq_eq_true (show Nat.beq (cs.drop o).length ((cs.drop o).take (sLen*ie.size)).length=true from this)
     simp only[hol,List.length_drop] at this
     exact this
    omega
  obtain⟨w',hrun,⟨C',j1,j2,j3⟩,j4,j5,j6,j7,j8⟩:=storeCells_run (P:=P) NEW 0 w C p.blk (p.delta+o+sLen*ie.size) e2 fz k1 (by omega) (fun j hj1 hj=>hfree j (by omega) (by omega)) (concL_oneCell hnew h4)
  have hq:=Step.rename (w':=w') (q:=⟨p.blk,p.delta+o,p.ncap - o / p.sz,p.sz⟩) hr h8 (by rcases(show z=0∨z=1∨z=2 by omega) with rfl|rfl|rfl<;>rfl) hpl h21 i1 rfl j5 j4 j6 j7 j8 ?_
  ·refine⟨_,w',_,_,_,append_fit hp (hX w rfl).1 (hX w rfl).2 hfit (by rw[add_plain];exact hrun),i2,hq,?_⟩
   simp[conc,Inj.set]
   omega
  ·have hle:ι.le (ι.set m.next ⟨p.blk,p.delta+o,p.ncap - o / p.sz,p.sz⟩):=Inj.le_set (hr.fresh _ (Nat.le_refl _))
   refine⟨C',e2,fz,_,j1,concL_mono hle (concL_append hold hnew),fun i hi=>?_,fun _=>⟨k9,k10⟩,fun _=>⟨rfl,by simp,fun _=>?_,?_⟩⟩
   ·have hOl:((L.drop o).take (sLen*ie.size)).length=sLen*ie.size:=by simp;omega
    rw[List.length_append,hOl] at hi
    simp only[j3]
    by_cases hi2:i<sLen*ie.size
    ·rw[if_neg (by omega),List.getElem?_append_left (by omega),List.getElem?_take,if_pos hi2,List.getElem?_drop,Nat.add_assoc,k3 (o+i) (by omega)]
    ·rw[if_pos (by omega),List.getElem?_append_right (by omega),hOl]
     congr 1;omega
   ·show C'.size=p.delta+o+(p.ncap - o / p.sz)*p.sz
    rw[j2,k7,Nat.sub_mul,←hodiv]
    have:o / p.sz*p.sz≤p.ncap*p.sz:=Nat.mul_le_mul_right _ (by omega)
    omega
   ·refine⟨k8.1,fun h=>by rw[j2];exact k8.2.1 h,fun hz=>?_⟩
    subst hz
    have hk:=k8.2.2 rfl
    have he:cs.length - o=sLen*ie.size:=by
     have:endOk 2 (cs.drop o) ((cs.drop o).take (sLen*ie.size))=true:=h18
     have:=Nat.eq_of_beq_eq_true (show Nat.beq (cs.drop o).length ((cs.drop o).take (sLen*ie.size)).length=true from this)
     simp only[hol,List.length_drop] at this
     exact this
    show fz.2≤p.delta+o+(((cs.drop o).take (Nat.mul sLen ie.size))++new).length
    rw[List.length_append,show((cs.drop o).take (Nat.mul sLen ie.size)).length=sLen*ie.size from hol]
    omega
 ·have hst:Step P ι m w ι ⟨m.next,t1⟩ w:=Step.forget hr fun b x hx=>(h21 b x hx).2
  exact append_move hst hp hse hX (fun w' hw'=>firstCells_run (L:=L) (fun i hi=>by rw[cell_of k1];exact k3 i hi) (by omega) hw') (by omega) hold hnew hol hnl h2 (hby▸h3) h20
end
end Go.AM
end
section
namespace Go.AM
section
variable {P:Program} {ι:Inj} {m:Mem} {w w':World} {A B:Value} {a b:AV} {t:TypeId} {g:G} {ts:Array TypeId} {args:Array Value} {u e ty:TypeId} {ie:TypeInfo} {Z S X:Value}
theorem append_none {sCap:Nat} {base:Option Addr} {sLen:Nat} (h:App P ts args t u e ie Z (.slice base sLen sCap) X) (hn:(Builtin.lenOf X).run P w=.ok 0 w)
  (hx:(Builtin.firstCells ie.size 0 X).run P w=.ok #[] w) (hfit:sLen≤sCap):(Builtin.append_ ts ty args).run P w=.ok (.slice base sLen sCap) w:=by
 rcases h.hu with⟨d,hu⟩|hu<;>cases base<;>simp[Builtin.append_,h.ts0,h.ts1,h.a0,h.a1,run_underlying h.ht,run_underlying hu,sizeOf,typeInfo,h.hi,hn,hx,hfit,Go.storeCells]
theorem appendK_ok (hg:GOk P g) (hr:Rel P ι m w) {f:AV→Mem→R} (ts0:ts[0]? =some t) (ts1:ts[1]? =some u) (hu:(∃d,g.desc u=.slice d)∨g.desc u=.string) (ha:conc ι a=some A) (hb:conc ι b=some B)
  (a0:args[0]? =some A) (a1:args[1]? =some B) (h:appendK g t a b m f=.ok):Out P ι m w f ((Builtin.append_ ts ty args).run P w):=by
 unfold appendK at h
 split at h<;>first|(cases h;done)|skip
 rename_i e hd
 obtain⟨sz,h1,h2⟩:=optK_ok h
 obtain⟨ie,h3,h4⟩:=optK_ok h2
 obtain⟨h5,h6⟩:=ifB_ok h4
 obtain⟨z,h7,h8⟩:=optK_ok h6
 rw[lenK_eq] at h8
 obtain⟨h9,h10⟩:=ifB_ok h8
 obtain⟨i,Z,k1,k2,k3⟩:=G.zero_info hg h7 ι
 have hi:=hg.info h3
 rw[hi] at k1;injection k1 with k1;subst k1
 obtain⟨i,k4,k5⟩:=hg.size h1
 rw[hi] at k4;injection k4 with k4;subst k4
 subst k5
 have hs1:=Nat.le_of_ble_eq_true h5
 have hzl:=Nat.eq_of_beq_eq_true h9
 have hZl:=concL_length (conc_cells k3)
 have hse:P.cellsOf e=ie.size:=by simp[Program.cellsOf,hi]
 have hap:App P ts args t u e ie Z A B:=⟨ts0,ts1,a0,a1,hg.desc hd (by simp),hu.elim (fun⟨d,h⟩=>.inl ⟨d,hg.desc h (by simp)⟩) (fun h=>.inr (hg.desc h (by simp))),hi,k2,by simp at hZl;omega,hs1⟩
 obtain⟨n,new,NEW,j1,j2,j3,j4⟩:=cellsOfK_ok hr hb h10
 rw[iteB_eq] at j1
 split at j1<;>rename_i hn
 ·have hn:=Nat.eq_of_beq_eq_true hn
  subst hn
  have hN:NEW.toArray= #[]:=by
   have:=concL_length j2
   have:NEW=[]:=List.length_eq_zero_iff.1 (by omega)
   rw[this]
  have hx:=(j4 w rfl).2
  rw[hN] at hx
  unfold keepK at j1
  split at j1<;>first|(cases j1;done)|skip
  ·rw[conc_nils ha] at hap
   exact OutP.out hr (.mk' j1 (by simp[conc]) (append_none hap (j4 w rfl).1 hx (Nat.le_refl _)))
  ·obtain⟨j5,j6⟩:=ifB_ok j1
   have ha':=ha
   obtain⟨p,hp,rfl⟩:=conc_sl ha
   exact OutP.out hr (.mk' j6 ha' (append_none hap (j4 w rfl).1 hx (Nat.le_of_ble_eq_true j5)))
  ·have ha':=ha
   obtain⟨p,hp,rfl,hc⟩:=conc_sl' ha
   have hc:=hc rfl
   exact OutP.out hr (.mk' j1 ha' (append_none hap (j4 w rfl).1 hx (by simp only[capOf];omega)))
 ·have hn1:n≠0:=fun e=>hn (by rw[e];rfl)
  unfold appendTo at j1
  split at j1<;>first|(cases j1;done)|skip
  ·have ha':=ha
   rw[conc_nils ha] at hap ha'
   exact appendNew_ok hr ha' hap hse rfl j4 (by omega) j2 j3 (by simpa using j1)
  ·rename_i bl o len c
   rw[forceN_eq,iteB_eq] at j1
   split at j1<;>rename_i hc
   ·exact appendRoom_ok hr ha hap j4 (Nat.le_of_ble_eq_true hc) j2 j1
   ·have ha':=ha
    obtain⟨p,hp,rfl⟩:=conc_sl ha
    refine appendNew_ok hr ha' hap hse rfl j4 ?_ j2 j3 j1
    simp only[capOf]
    exact Nat.lt_of_not_le fun h=>hc (Nat.ble_eq_true_of_le h)
  ·rename_i bl o len
   rw[forceN_eq] at j1
   exact appendGrow_ok hr ha hap hse rfl j4 j2 j3 j1
end
end Go.AM
end
section
namespace Go.AM
section
variable {P:Program} {ι:Inj} {m:Mem} {w w':World} {A B:Value} {a b:AV} {t:TypeId} {g:G} {ts:Array TypeId} {args:Array Value} {ty:TypeId}
theorem copyK_ok (hg:GOk P g) (hr:Rel P ι m w) {f:AV→Mem→R} (ts0:ts[0]? =some t) (ha:conc ι a=some A) (hb:conc ι b=some B) (a0:args[0]? =some A) (a1:args[1]? =some B)
  (h:copyK g t a b m f=.ok):Out P ι m w f ((Builtin.copy_ ts ty args).run P w):=by
 unfold copyK at h
 split at h<;>first|(cases h;done)|skip
 rename_i e hd
 obtain⟨sz,h1,h2⟩:=optK_ok h
 obtain⟨h3,h4⟩:=ifB_ok h2
 obtain⟨n,cs,CS,j1,j2,j3,j4⟩:=cellsOfK_pre hr hb h4
 have hu:=hg.run_desc hd (by simp) w
 have hsz:=hg.run_size h1 w
 obtain⟨j5,j6⟩:=j4 w rfl
 split at j1<;>first|(cases j1;done)|skip
 ·rw[conc_nils ha] at a0
  have:=j6 0 (Nat.zero_le _)
  refine OutP.out hr (.mkInt j1 (n':=0) ?_ rfl)
  simp[Builtin.copy_,ts0,a0,a1,hu,hsz,j5,this,goInt]
 ·rename_i bl o dl c
  obtain⟨p,hp,rfl⟩:=conc_sl ha
  rw[forceN_eq,iteB_eq] at j1
  split at j1<;>rename_i hk
  ·have hk:Nat.min n dl=0:=Nat.eq_of_beq_eq_true hk
   have:=j6 0 (Nat.zero_le _)
   refine OutP.out hr (.mkInt j1 (n':=0) ?_ rfl)
   simp[Builtin.copy_,ts0,a0,a1,hu,hsz,j5,this,goInt,hk,Go.storeCells]
  ·obtain⟨k1,k2⟩:=takeK_ok j1
   obtain⟨k3,k4⟩:=ifB_ok k2
   obtain⟨x,k5,k6⟩:=T.getK_ok (k4:m.t.getK bl _=.ok)
   split at k6<;>first|(cases k6;done)|skip
   rename_i c' e' gr z
   obtain⟨k7,k8⟩:=ifB_ok k6
   obtain⟨k9,k10⟩:=spliceK_ok k8
   have hx:=j6 (Nat.min n dl) (Nat.min_le_left _ _)
   have hL:=concL_take j2 (Nat.mul (Nat.min n dl) sz)
   obtain⟨w',m',i1,i2,i3⟩:=Step.store hr k5 k7 hp hL (concL_oneCell hL k3) k9 (splice_length k9) (splice_get k9) k10
   refine⟨_,w',ι,_,m',?_,i2,i3,rfl⟩
   simp only[Nat.mul_eq] at i1
   simp[Builtin.copy_,ts0,a0,a1,hu,hsz,j5,hx,goInt,i1]
end
end Go.AM
end
section
namespace Go.AM
section
variable {P:Program} {ι:Inj} {m:Mem} {w w':World} {A B:Value} {a b:AV} {t:TypeId} {g:G} {ts:Array TypeId} {args:Array Value} {ty:TypeId}
theorem run_getMap {r:Nat} {E:Array MapEntry} {c:Nat} (h:w.heap[r]? =some (.map E c)):(getObj r).run P w=.ok (.map E c) w:=by simp[getObj,Sem.run,h]
theorem assertK_ok (hg:GOk P g) {xt:TypeId} {ok:Bool} {f:AV→R} (ha:conc ι a=some A) (h:assertK g a t ok f=.ok):OutP P ι w f ((Instr.typeAssert A xt t ok).run P w):=by
 have main:∀d,g.desc t=d→d≠.invalid→(∀ms,d≠.interface ms)→(a=.nili∧ifB 0 ok (optK 0 (g.zero t) fun z=>f (.tup [z,.bool false]))=.ok∨
   ∃u v,a=.ifc u v∧iteB (Nat.beq u t) (iteB ok (f (.tup [v,.bool true])) (f v)) (ifB 0 ok (optK 0 (g.zero t) fun z=>f (.tup [z,.bool false])))=.ok)→OutP P ι w f ((Instr.typeAssert A xt t ok).run P w):=fun d hd hi hn hc=>by
  have hu:=hg.run_desc hd hi w
  have fails:∀(X:Value) (h0:ifB 0 ok (optK 0 (g.zero t) fun z=>f (.tup [z,.bool false]))=.ok) (_:∀Z,(zeroValue t).run P w=.ok Z w→(Instr.typeAssert X xt t true).run P w=.ok (.tuple #[Z,.bool false]) w),OutP P ι w f ((Instr.typeAssert X xt t ok).run P w):=fun X h0 hX=>by
   obtain⟨h1,h2⟩:=ifB_ok h0
   obtain⟨z,h3,h4⟩:=optK_ok h2
   obtain⟨Z,k1,k2⟩:=G.zero_ok hg (ι:=ι) h3 w
   subst h1
   exact .mk' h4 (by simp[conc,concL,k2]) (hX Z k1)
  rcases hc with⟨rfl,h0⟩|⟨u,v,rfl,h0⟩
  ·have e:A=.nilIface:=by simp[conc] at ha;exact ha.symm
   subst e
   refine fails _ h0 fun Z hZ=>?_
   simp only[Instr.typeAssert,Sem.run_bind,hu,Result.andThen_ok]
   cases d<;>first|(exact absurd rfl (hn _))|simp[hZ]
  ·obtain⟨V,hV,rfl⟩:∃V,conc ι v=some V∧A=.iface u V:=by
    simp only[conc,Option.map_eq_some_iff] at ha
    obtain⟨V,h1,h2⟩:=ha
    exact⟨V,h1,h2.symm⟩
   rw[iteB_eq] at h0
   split at h0<;>rename_i hut
   ·have hut:=Nat.eq_of_beq_eq_true hut
    subst hut
    have hrun:(Instr.typeAssert (.iface u V) xt u ok).run P w=.ok (if ok then .tuple #[V,.bool true] else V) w:=by
     simp only[Instr.typeAssert,Sem.run_bind,hu,Result.andThen_ok]
     cases d<;>first|(exact absurd rfl (hn _))|simp
    rw[hrun]
    cases ok with
    |true=>exact .mk' (h0:f (.tup [v,.bool true])=.ok) (by simp[conc,concL,hV]) rfl
    |false=>exact .mk' (h0:f v=.ok) hV rfl
   ·have hut:u≠t:=fun e=>hut (by simp[e])
    refine fails _ h0 fun Z hZ=>?_
    simp only[Instr.typeAssert,Sem.run_bind,hu,Result.andThen_ok]
    cases d<;>first|(exact absurd rfl (hn _))|simp[hZ,hut]
 unfold assertK at h
 split at h<;>first|(cases h;done)|skip
 ·rename_i n1 n2;exact main _ rfl (fun e=>n2 e) (fun ms e=>n1 ms e) (.inl ⟨rfl,h⟩)
 ·rename_i n1 n2;exact main _ rfl (fun e=>n2 e) (fun ms e=>n1 ms e) (.inr ⟨_,_,rfl,h⟩)
theorem newMap_ok (hr:Rel P ι m w) {f:AV→Mem→R} (h:newK m (.map [] 0) (fun b m=>f (.mp b) m)=.ok):
  Out P ι m w f ((do pure (.map (some (← newObj (.map #[] 0)))):Sem Value).run P w):=by
 obtain⟨t',h1,h2⟩:=newK_ok h
 refine⟨.map (some w.heap.size),{w with heap:=w.heap.push (.map #[] 0)},ι.set m.next ⟨w.heap.size,0,0,0⟩,_,_,by simp[newObj];rfl,h2,Step.new hr h1 (p:=⟨w.heap.size,0,0,0⟩) rfl rfl rfl rfl rfl ?_,by simp[conc,Inj.set]⟩
 exact⟨#[],by simp,trivial,rfl⟩
theorem sliceDataK_ok {f:AV→R} (ha:conc ι a=some A) (h:sliceDataK a f=.ok):OutP P ι w f ((Builtin.unsafeSliceData_ ts ty #[A]).run P w):=by
 unfold sliceDataK at h
 split at h<;>first|(cases h;done)|skip
 ·rw[conc_nils ha]
  exact .mk' h (by simp[conc]) rfl
 ·rename_i b o n' c
  obtain⟨h1,h2⟩:=ifB_ok h
  obtain⟨p,hp,rfl⟩:=conc_sl ha
  have hc:=Nat.le_of_ble_eq_true h1
  refine .mk' h2 (by simp[conc,hp];rfl) ?_
  show((if c≠0 then pure (.pointer (some ⟨p.blk,p.delta+o,none⟩)) else _:Sem Value)).run P w=_
  rw[if_pos (by omega)];rfl
 ·rename_i b o n
  obtain⟨h1,h2⟩:=ifB_ok h
  obtain⟨p,hp,rfl,hc⟩:=conc_sl' ha
  have hc:=hc rfl
  have hn:=Nat.le_of_ble_eq_true h1
  refine .mk' h2 (by simp[conc,hp];rfl) ?_
  show((if p.ncap - o / p.sz≠0 then pure (.pointer (some ⟨p.blk,p.delta+o,none⟩)) else _:Sem Value)).run P w=_
  rw[if_pos (by omega)];rfl
theorem capK_ok (hg:GOk P g) {f:AV→R} (ts0:ts[0]? =some t) (a0:args[0]? =some A) (ha:conc ι a=some A) (h:capK g t a f=.ok):OutP P ι w f ((Builtin.cap_ ts ty args).run P w):=by
 unfold capK at h
 split at h<;>first|(cases h;done)|skip
 ·obtain⟨h1,h2⟩:=ifB_ok h
  obtain⟨e,hd⟩:=isSlice_ok h1
  have hu:=hg.run_desc hd (by simp) w
  rw[conc_nils ha] at a0
  refine .mkInt h2 (n':=0) ?_
  simp[Builtin.cap_,ts0,a0,hu,goInt]
 ·obtain⟨h1,h2⟩:=ifB_ok h
  obtain⟨e,hd⟩:=isSlice_ok h1
  have hu:=hg.run_desc hd (by simp) w
  obtain⟨p,hp,rfl⟩:=conc_sl ha
  rename_i b o n c
  refine .mkInt h2 (n':=c) ?_ rfl
  simp[Builtin.cap_,ts0,a0,hu,goInt,capOf]
theorem rangeK_ok (hg:GOk P g) (hr:Rel P ι m w) {f:AV→Mem→R} (hm:isMap g t=true) (ha:conc ι a=some A) (h:rangeK a m f=.ok):Out P ι m w f ((Instr.range t A).run P w):=by
 obtain⟨k,e,hd⟩:=isMap_ok hm
 have hu:=hg.run_desc hd (by simp) w
 have fin:∀ {mb:Option Nat} {m':Option Nat} {c:Nat} (_:match mb with|none=>m'=none|some b=>∃q,ι b=some q∧m'=some q.blk)
   (_:newK m (.iter mb c [] c) (fun b m=>f (.ptr b 0) m)=.ok) (_:(Instr.range t A).run P w=.ok (.pointer (some ⟨w.heap.size,0,none⟩)) {w with heap:=w.heap.push (.mapIter m' c #[] c)}),
   Out P ι m w f ((Instr.range t A).run P w):=fun {mb m' c} h1 h2 h3=>by
  obtain⟨t',i1,i2⟩:=newK_ok h2
  refine⟨_,_,ι.set m.next ⟨w.heap.size,0,0,0⟩,_,_,h3,i2,Step.new hr i1 (p:=⟨w.heap.size,0,0,0⟩) rfl rfl rfl rfl rfl ?_,by simp[conc,Inj.set]⟩
  refine⟨rfl,m',by simp,?_⟩
  cases mb with
  |none=>exact h1
  |some b=>obtain⟨q,q1,q2⟩:=h1;exact⟨q,Inj.le_set (hr.fresh _ (Nat.le_refl _)) _ _ q1,q2⟩
 unfold rangeK at h
 split at h<;>first|(cases h;done)|skip
 ·rw[conc_nilm ha] at fin ⊢
  exact fin (mb:=none) rfl h (by simp[Instr.range,hu,newObj];rfl)
 ·rename_i b
  obtain⟨x,h1,h2⟩:=T.getK_ok (h:m.t.getK b _=.ok)
  split at h2<;>first|(cases h2;done)|skip
  rename_i es c
  obtain⟨p,hp,rfl⟩:∃p,ι b=some p∧A=.map (some p.blk):=by
   simp only[conc,Option.map_eq_some_iff] at ha
   obtain⟨p,q1,q2⟩:=ha;exact⟨p,q1,q2.symm⟩
  obtain⟨E,k1,k2,k3⟩:=blkOf hr h1 hp
  exact fin (mb:=some b) ⟨p,hp,rfl⟩ h2 (by simp[Instr.range,hu,newObj,run_getMap k1];rfl)
end
end Go.AM
end
