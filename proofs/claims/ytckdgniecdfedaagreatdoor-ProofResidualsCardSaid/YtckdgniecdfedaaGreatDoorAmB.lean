/- The steps of the plain machine answer as the model: values and cells. -/
import Derived.Test.YtckdgniecdfedaaGreatDoorAmA
import Derived.Laws.IdiomCopy
import Derived.LaidEql
import Derived.Laws.Strings
section
namespace Go.AM
structure GOk (P:Program) (g:G):Prop where
 ft:∀f fn,g.ft.find f f=some fn→P.funcs[f]? =some fn
 tt:∀t i,g.tt.find t t=some i→P.info? t=some i
 nglob:g.nglob≤P.globals.size
 num:∀(f:FuncId) (fn:Func),P.funcs[f]? =some fn→fn.name≠ "runtime.NumGoroutine"
 mixed:P.follows .mixedOrders=true
theorem underlying_of {P:Program} {t:TypeId} {i:TypeInfo} (h:P.info? t=some i):P.underlying t=match i.desc with| .named _ u=>(P.info? u).map (·.desc)|d=>some d:=by
 obtain⟨d,_⟩:=i
 cases d<;>simp[Program.underlying,h]
section
variable {P:Program} {g:G} (hg:GOk P g)
include hg
theorem GOk.info {t:TypeId} {i:TypeInfo} (h:g.info t=some i):P.info? t=some i:=hg.tt t i (by rw[←T.get_eq];exact h)
theorem GOk.desc {t:TypeId} {d:TypeDesc} (h:g.desc t=d) (hd:d≠.invalid):P.underlying t=some d:=by
 unfold G.desc at h
 split at h
 ·rename_i i hi
  rw[underlying_of (hg.info hi)]
  split at h
  ·rename_i nm u hu
   split at h
   ·rename_i j hj
    have hj':=hg.info hj
    simp[hu,hj',h]
   ·exact absurd h.symm hd
  ·rename_i hn
   split
   ·rename_i nm u hu;exact absurd hu (hn nm u)
   ·rw[h]
 ·exact absurd h.symm hd
theorem GOk.size {t:TypeId} {s:Nat} (h:g.size t=some s):∃i,P.info? t=some i∧i.size=s:=by
 unfold G.size at h
 split at h
 ·rename_i i hi
  split at h
  ·cases h
  ·exact⟨i,hg.info hi,by simpa using h⟩
 ·cases h
omit hg in
theorem G.size_desc {t:TypeId} {s:Nat} (h:g.size t=some s):g.desc t≠.invalid:=by
 unfold G.size at h
 split at h
 ·split at h
  ·cases h
  ·assumption
 ·cases h
theorem GOk.cellsOf {t:TypeId} {s:Nat} (h:g.size t=some s):P.cellsOf t=s:=by
 obtain⟨i,h1,h2⟩:=hg.size h
 simp[Program.cellsOf,h1,h2]
theorem GOk.run_size {t:TypeId} {s:Nat} (h:g.size t=some s) (w:World):(sizeOf t).run P w=.ok s w:=by
 obtain⟨i,h1,h2⟩:=hg.size h
 simp[sizeOf,typeInfo,h1,h2]
theorem GOk.run_desc {t:TypeId} {d:TypeDesc} (h:g.desc t=d) (hd:d≠.invalid) (w:World):(underlying t).run P w=.ok d w:=run_underlying (hg.desc h hd) w
theorem GOk.run_agg {t:TypeId} (hv:g.desc t≠.invalid) (w:World):(isAgg t).run P w=.ok (g.agg t) w:=by
 have hd:=hg.run_desc (d:=g.desc t) rfl hv w
 simp only[isAgg,Sem.run_bind,hd,Result.andThen_ok,G.agg]
 cases g.desc t<;>rfl
end
theorem absC_ok {ι:Inj} {v:Value} {a:AV} (h:absC v=some a):conc ι a=some v:=by
 unfold absC at h
 split at h<;>first|(cases h;done)|(injection h with h;subst h;simp[conc])
theorem absCs_ok {ι:Inj}:∀ {vs:List Value} {as:List AV},absCs vs=some as→concL ι as=some vs
 |[],as,h=>by simp[absCs] at h;subst h;rfl
 |v::vs,as,h=>by
  simp only[absCs] at h
  split at h
  ·rename_i a l h1 h2
   injection h with h;subst h
   simp[concL,absC_ok h1,absCs_ok h2]
  ·cases h
theorem absV_ok {ι:Inj} {v:Value} {a:AV} (h:absV v=some a):conc ι a=some v:=by
 unfold absV at h
 split at h
 ·split at h
  ·rename_i l hl;injection h with h;subst h;simp[conc,absCs_ok hl]
  ·cases h
 ·split at h
  ·rename_i l hl;injection h with h;subst h;simp[conc,absCs_ok hl]
  ·cases h
 ·split at h
  ·rename_i f first cap hc
   injection h with h;subst h
   simp at hc
   simp[conc,concFn,concL,hc.1,hc.2]
  ·cases h
 ·exact absC_ok h
theorem G.zero_ok {P:Program} {g:G} (hg:GOk P g) {ι:Inj} {t:TypeId} {a:AV} (h:g.zero t=some a) (w:World):∃z,(zeroValue t).run P w=.ok z w∧conc ι a=some z:=by
 unfold G.zero at h
 split at h
 ·rename_i i hi
  split at h
  ·rename_i z hz
   exact⟨z,by simp[zeroValue,typeInfo,hg.info hi,hz],absV_ok h⟩
  ·cases h
 ·cases h
section
variable {P:Program} {ι:Inj} {m:Mem} {w:World} {fr:Fr} {mask:Nat} {A:Act} (hr:Rel P ι m w) (hf:FrRel P ι fr mask A.tmps)
include hr hf
theorem ev_ok {x:Operand} {f:AV→R} (h:ev x fr f=.ok):∃v,f v=.ok∧conc ι v=some (A.eval x):=by
 cases x with
 |tmp t=>
  obtain⟨v,h1,h2⟩:=Fr.getK_ok (h:fr.getK t f=.ok)
  obtain⟨V,h3,h4⟩:=hf.val t v h1
  exact⟨v,h2,by simp[Act.eval,h3,h4]⟩
 |const v=>
  obtain⟨a,h1,h2⟩:=optK_ok h
  exact⟨a,h2,absV_ok h1⟩
 |global g=>
  obtain⟨h1,h2⟩:=ifB_ok h
  obtain⟨p,h3,h4,h5⟩:=hr.low g (Nat.lt_of_lt_of_le (Nat.le_of_ble_eq_true h1) hf.ng)
  exact⟨_,h2,by simp[conc,h3,h4,h5,Act.eval]⟩
 |func i=>exact⟨_,h,by simp[conc,concFn,concL,Act.eval]⟩
theorem evs_ok:∀ {xs:List Operand} {f:List AV→R},evs xs fr f=.ok→∃vs,f vs=.ok∧concL ι vs=some (xs.map A.eval)
 |[],f,h=>⟨[],h,rfl⟩
 |x::xs,f,h=>by
  obtain⟨v,h1,h2⟩:=ev_ok hr hf (x:=x) (h:ev x fr (fun v=>evs xs fr fun l=>f (v::l))=.ok)
  obtain⟨vs,h3,h4⟩:=evs_ok h1
  exact⟨v::vs,h3,by simp[concL,h2,h4]⟩
theorem evo_ok {x:Option Operand} {f:Option AV→R} (h:evo x fr f=.ok):∃v,f v=.ok∧(match v with|none=>x=none|some v=>∃y,x=some y∧conc ι v=some (A.eval y)):=by
 cases x with
 |none=>exact⟨none,h,rfl⟩
 |some x=>
  obtain⟨v,h1,h2⟩:=ev_ok hr hf (h:ev x fr (fun v=>f (some v))=.ok)
  exact⟨some v,h1,x,rfl,h2⟩
end
theorem asIntK_ok {v:AV} {f:Int→R} (h:asIntK v f=.ok):∃k n,v=.int k n∧f n=.ok:=by
 cases v<;>first|(cases h;done)|exact⟨_,_,rfl,h⟩
theorem natK_ok {n:Int} {f:Nat→R} (h:natK n f=.ok):∃m:Nat,n=m∧f m=.ok:=by
 cases n with
 |ofNat m=>exact⟨m,rfl,h⟩
 |negSucc m=>cases h
theorem asNatK_ok {v:AV} {f:Nat→R} (h:asNatK v f=.ok):∃(k:IntKind) (n:Nat),v=.int k n∧f n=.ok:=by
 cases v<;>first|(cases h;done)|skip
 rename_i k n
 obtain⟨m,rfl,h2⟩:=natK_ok (h:natK n f=.ok)
 exact⟨k,m,rfl,h2⟩
theorem asBoolK_ok {v:AV} {f:Bool→R} (h:asBoolK v f=.ok):∃b,v=.bool b∧f b=.ok:=by
 cases v<;>first|(cases h;done)|exact⟨_,rfl,h⟩
theorem retB_ok {b:Bool} {f:AV→R}:retB b f=f (.bool b):=by cases b<;>rfl
theorem i64_wrap {n:Int} (h1: -9223372036854775808≤n) (h2:n≤9223372036854775807):IntKind.i64.wrap n=n:=by
 have e:IntKind.i64.wrap n=if(decide (n % 18446744073709551616≥9223372036854775808))=true then n % 18446744073709551616 - 18446744073709551616 else n % 18446744073709551616:=rfl
 rw[e]
 split<;>rename_i h<;>simp only[decide_eq_true_iff] at h<;>omega
theorem inI64_wrap {n:Int} (h:inI64 n=true):IntKind.i64.wrap n=n:=by
 cases n with
 |ofNat m=>
  have:=Nat.le_of_ble_eq_true (h:Nat.ble m 9223372036854775807=true)
  exact i64_wrap (by rw[Int.ofNat_eq_natCast];omega) (by rw[Int.ofNat_eq_natCast];omega)
 |negSucc m=>
  have:=Nat.le_of_ble_eq_true (h:Nat.ble m 9223372036854775807=true)
  exact i64_wrap (by rw[Int.negSucc_eq];omega) (by rw[Int.negSucc_eq];omega)
theorem wrapK_ok {k:IntKind} {n:Int} {f:AV→R} (h:wrapK k n f=.ok):f (.int k (k.wrap n))=.ok:=by
 cases k<;>first
  |(have h':iteB (inI64 n) (f (.int .i64 n)) (forceI (IntKind.i64.wrap n) fun n=>f (.int .i64 n))=.ok:=h
    rw[iteB_eq,forceI_eq] at h'
    split at h'
    ·rw[inI64_wrap ‹_›];exact h'
    ·exact h')
  |exact(forceI_eq _ _).symm.trans h
theorem kindEq_ok {a b:IntKind} (h:kindEq a b=true):a=b:=by
 cases a<;>cases b<;>first|rfl|cases h
theorem intEq_ok (a b:Int):intEq a b=(a==b):=by
 cases a with
 |ofNat m=>cases b with
  |ofNat n=>
   show Nat.beq m n=_
   by_cases e:m=n
   ·simp[e]
   ·have:Nat.beq m n=false:=by cases h:Nat.beq m n with|false=>rfl|true=>exact absurd (Nat.eq_of_beq_eq_true h) e
    rw[this];symm;simp;omega
  |negSucc n=>symm;simp[intEq]
 |negSucc m=>cases b with
  |ofNat n=>symm;simp[intEq]
  |negSucc n=>
   show Nat.beq m n=_
   by_cases e:m=n
   ·simp[e]
   ·have:Nat.beq m n=false:=by cases h:Nat.beq m n with|false=>rfl|true=>exact absurd (Nat.eq_of_beq_eq_true h) e
    rw[this];symm;simp;omega
theorem intLt_ok (a b:Int):intLt a b=decide (a<b):=by
 cases a with
 |ofNat m=>cases b with
  |ofNat n=>
   show Nat.ble (Nat.succ m) n=_
   rw[Bool.eq_iff_iff,Nat.ble_eq];simp;omega
  |negSucc n=>symm;simp[intLt];try omega
 |negSucc m=>cases b with
  |ofNat n=>symm;simp[intLt];try omega
  |negSucc n=>
   show Nat.ble (Nat.succ n) m=_
   rw[Bool.eq_iff_iff,Nat.ble_eq];simp;omega
theorem int2_ok {h:IntKind→Int→Int→(AV→R)→R} {a b:AV} {f:AV→R} (hh:int2 h a b f=.ok):∃k x y,a=.int k x∧b=.int k y∧h k x y f=.ok:=by
 cases a<;>first|(cases hh;done)|skip
 cases b<;>first|(cases hh;done)|skip
 obtain⟨h1,h2⟩:=ifB_ok hh
 have:=kindEq_ok h1
 subst this
 exact⟨_,_,_,rfl,rfl,h2⟩
theorem int2s_ok {h:IntKind→Int→Int→(AV→R)→R} {a b:AV} {f:AV→R} (hh:int2s h a b f=.ok):∃k x j y,a=.int k x∧b=.int j y∧h k x y f=.ok:=by
 cases a<;>first|(cases hh;done)|skip
 cases b<;>first|(cases hh;done)|skip
 exact⟨_,_,_,_,rfl,rfl,hh⟩
theorem strEq_ok (a b:List UInt8):strEq a b=(a==b):=by
 induction a generalizing b with
 |nil=>cases b<;>rfl
 |cons x a ih=>
  cases b with
  |nil=>rfl
  |cons y b=>
   show iteB (Nat.beq x.toNat y.toNat) (strEq a b) false=_
   rw[iteB_eq,ih]
   by_cases e:x=y
   ·subst e;simp
   ·have:¬(Nat.beq x.toNat y.toNat=true):=fun h=>e (UInt8.toNat_inj.1 (Nat.eq_of_beq_eq_true h))
    rw[if_neg this]
    symm;simp[e]
theorem strLt_ok (a b:List UInt8):strLt a b=Op.bytesLess a b:=by
 induction a generalizing b with
 |nil=>cases b<;>rfl
 |cons x a ih=>
  cases b with
  |nil=>rfl
  |cons y b=>
   show iteB (Nat.beq x.toNat y.toNat) (strLt a b) (Nat.ble (Nat.succ x.toNat) y.toNat)=_
   rw[iteB_eq,ih]
   simp only[Op.bytesLess]
   by_cases e:x=y
   ·subst e;simp
   ·have:¬(Nat.beq x.toNat y.toNat=true):=fun h=>e (UInt8.toNat_inj.1 (Nat.eq_of_beq_eq_true h))
    rw[if_neg this]
    rw[Bool.eq_iff_iff,Nat.ble_eq]
    simp[e,UInt8.lt_iff_toNat_lt]
    omega
def OutP (_P:Program) (ι:Inj) (w:World) (f:AV→R) (r:Result Value):Prop:=∃v V,f v=.ok∧conc ι v=some V∧r=.ok V w
section
variable {P:Program} {ι:Inj} {w:World} {f:AV→R} {a b:AV} {A B:Value}
theorem conc_int {k:IntKind} {n:Int} (h:conc ι (.int k n)=some A):A=.int k n:=by simp only[conc,Option.some.injEq] at h;exact h.symm
theorem conc_str {s:List UInt8} (h:conc ι (.str s)=some A):A=.string ⟨s.toArray⟩:=by simp only[conc,Option.some.injEq] at h;exact h.symm
theorem conc_bool {s:Bool} (h:conc ι (.bool s)=some A):A=.bool s:=by simp only[conc,Option.some.injEq] at h;exact h.symm
theorem kbits_eq (k:IntKind):kbits k=k.bits:=by cases k<;>rfl
theorem wrap_small {k:IntKind} {n:Nat} (h:n≤kmax k):k.wrap n=n:=by
 cases k<;>simp only[kmax] at h
 case i64=>exact i64_wrap (by omega) (by omega)
 all_goals
  simp only[IntKind.wrap,IntKind.bits,IntKind.signed,Bool.true_and,Bool.false_and,Bool.false_eq_true,if_false]
  try rw[if_neg (by simp;omega)]
  omega
theorem kmax_lt (k:IntKind):kmax k<2 ^ k.bits:=by cases k<;>decide
theorem kmax_or {k:IntKind} {x y:Nat} (hx:x≤kmax k) (hy:y≤kmax k):(x ||| y)≤kmax k∧(x ^^^ y)≤kmax k:=by
 have h:∃j,kmax k+1=2 ^ j:=by cases k<;>first|exact⟨7,rfl⟩|exact⟨15,rfl⟩|exact⟨31,rfl⟩|exact⟨63,rfl⟩|exact⟨8,rfl⟩|exact⟨16,rfl⟩|exact⟨32,rfl⟩|exact⟨64,rfl⟩
 obtain⟨j,hj⟩:=h
 have h1:=Nat.or_lt_two_pow (x:=x) (y:=y) (n:=j) (by omega) (by omega)
 have h2:=Nat.xor_lt_two_pow (x:=x) (y:=y) (n:=j) (by omega) (by omega)
 omega
theorem ofInt_toNat {k:IntKind} {x:Nat} (hx:x≤kmax k):(BitVec.ofInt k.bits (x:Int)).toNat=x:=by
 have:=kmax_lt k
 rw[BitVec.ofInt_natCast,BitVec.toNat_ofNat]
 exact Nat.mod_eq_of_lt (by omega)
theorem intBits_and {k:IntKind} {x y:Nat} (hx:x≤kmax k) (hy:y≤kmax k):(Op.intBits .and k x y).run P w=.ok (.int k (Nat.land x y:Nat)) w:=by
 have h:(x &&& y)≤kmax k:=Nat.le_trans Nat.and_le_left hx
 simp only[Op.intBits,Sem.run_pure,BitVec.toNat_and,ofInt_toNat hx,ofInt_toNat hy]
 rw[wrap_small h];rfl
theorem intBits_or {k:IntKind} {x y:Nat} (hx:x≤kmax k) (hy:y≤kmax k):(Op.intBits .or k x y).run P w=.ok (.int k (Nat.lor x y:Nat)) w:=by
 simp only[Op.intBits,Sem.run_pure,BitVec.toNat_or,ofInt_toNat hx,ofInt_toNat hy]
 rw[wrap_small (kmax_or hx hy).1];rfl
theorem intBits_xor {k:IntKind} {x y:Nat} (hx:x≤kmax k) (hy:y≤kmax k):(Op.intBits .xor k x y).run P w=.ok (.int k (Nat.xor x y:Nat)) w:=by
 simp only[Op.intBits,Sem.run_pure,BitVec.toNat_xor,ofInt_toNat hx,ofInt_toNat hy]
 rw[wrap_small (kmax_or hx hy).2];rfl
theorem intBits_andNot {k:IntKind} {x y:Nat} (hx:x≤kmax k) (hy:y≤kmax k):(Op.intBits .andNot k x y).run P w=.ok (.int k (Nat.xor x (Nat.land x y):Nat)) w:=by
 have h0:(BitVec.ofInt k.bits (x:Int) &&& ~~~ BitVec.ofInt k.bits (y:Int)).toNat=x ^^^ (x &&& y):=by
  have hk:=kmax_lt k
  apply Nat.eq_of_testBit_eq
  intro i
  rw[BitVec.toNat_and,BitVec.toNat_not,ofInt_toNat hx,ofInt_toNat hy]
  rw[Nat.testBit_and,Nat.testBit_xor,Nat.testBit_and]
  by_cases hi:i<k.bits
  ·rw[show 2 ^ k.bits - 1 - y=2 ^ k.bits - (y+1) by omega,Nat.testBit_two_pow_sub_succ (by omega)]
   cases x.testBit i<;>cases y.testBit i<;>simp[hi]
  ·have:x.testBit i=false:=Nat.testBit_lt_two_pow (Nat.lt_of_lt_of_le (by omega:x<2 ^ k.bits) (Nat.pow_le_pow_right (by omega) (by omega)))
   simp[this]
 simp only[Op.intBits,Sem.run_pure,h0]
 rw[wrap_small (kmax_or hx (Nat.le_trans Nat.and_le_left hx)).2];rfl
theorem bitsH_ok {h:Nat→Nat→Nat} {k:IntKind} {x y:Int} (hh:bitsH h k x y f=.ok):∃a b:Nat,x=a∧y=b∧a≤kmax k∧b≤kmax k∧f (.int k (h a b:Nat))=.ok:=by
 obtain⟨a,rfl,h1⟩:=natK_ok hh
 obtain⟨b,rfl,h2⟩:=natK_ok h1
 obtain⟨h3,h4⟩:=ifB_ok h2
 obtain⟨h5,h6⟩:=ifB_ok h4
 rw[forceN_eq] at h6
 exact⟨a,b,rfl,rfl,Nat.le_of_ble_eq_true h3,Nat.le_of_ble_eq_true h5,h6⟩
end
def zeroAV (P:Program) (t:TypeId):Option AV:=match P.info? t with
 |some i=>(match i.zero with|some z=>absV z|none=>none)
 |none=>none
theorem GOk.zero {P:Program} {g:G} (hg:GOk P g) {t:TypeId} {z:AV} (h:g.zero t=some z):zeroAV P t=some z:=by
 unfold G.zero at h
 split at h
 ·rename_i i hi
  have:=hg.info hi
  unfold zeroAV
  rw[this]
  exact h
 ·cases h
structure Flat (P:Program) (t:TypeId):Prop where
 guard:P.eqGuardType P.depth t=false
 eq:∀(ι:Inj) (xs ys:List AV) (X Y:List Value) (f:Bool→R) (w:World) (z:AV),zeroAV P t=some z→concL ι xs=some X→concL ι ys=some Y→fitsB xs z.cells=true→fitsB ys z.cells=true→cellsEq xs ys f=.ok→
  ∃b,f b=.ok∧(Op.equal t (.agg X.toArray) (.agg Y.toArray)).run P w=.ok b w
 key:∀(e:Bool) (ι:Inj) (xs:List AV) (X:List Value) (w:World) (z:AV),zeroAV P t=some z→concL ι xs=some X→fitsB xs z.cells=true→(Instr.checkKey e 10000 t (.agg X.toArray)).run P w=.ok () w
theorem equal_of {P:Program} {w:World} {t:TypeId} {x y:Value} {r:Result Bool} (h:∀d:Nat,(Op.equalIn (d+1) t x y).run P w=r):(Op.equal t x y).run P w=r:=h 9999
section
variable {P:Program} {g:G} {ι:Inj} {m:Mem} {w:World} (hg:GOk P g) (hr:Rel P ι m w)
include hg hr
theorem ptrEq_ok {t e:TypeId} {b o c p:Nat} {A B:Value} {f:Bool→R} (ht:P.underlying t=some (.pointer e)) (ha:conc ι (.ptr b o)=some A) (hb:conc ι (.ptr c p)=some B) (h:ptrEq g e m b o c p f=.ok):
  ∃r,f r=.ok∧(Op.equal t A B).run P w=.ok r w:=by
 obtain⟨s,h1,h2⟩:=optK_ok h
 obtain⟨h3,h4⟩:=ifB_ok h2
 obtain⟨x,h5,h6⟩:=T.getK_ok (h4:m.t.getK b _=.ok)
 obtain⟨y,h7,h8⟩:=T.getK_ok (h6:m.t.getK c _=.ok)
 simp only[conc,Option.map_eq_some_iff] at ha hb
 obtain⟨pa,hpa,rfl⟩:=ha
 obtain⟨pb,hpb,rfl⟩:=hb
 obtain⟨pa',hpa',hxa⟩:=hr.blk b x h5
 obtain⟨pb',hpb',hyb⟩:=hr.blk c y h7
 rw[hpa] at hpa';injection hpa' with hpa';subst hpa'
 rw[hpb] at hpb';injection hpb' with hpb';subst hpb'
 split at h8<;>first|(cases h8;done)|skip
 rename_i ca ea ga cb eb gb
 obtain⟨C,e',fz,L,k1,k2,k3,k4,k5⟩:=hxa
 obtain⟨C',e'',fz',L',j1,j2,j3,j4,j5⟩:=hyb
 obtain⟨_,_,_,k6⟩:=k5 (by decide)
 obtain⟨_,_,_,j6⟩:=j5 (by decide)
 have kz:=k6.1 rfl
 have jz:=j6.1 rfl
 have hs:=hg.run_size h1 w
 have hs0:s≠0:=by have:=Nat.le_of_ble_eq_true h3;omega
 rw[iteB_eq] at h8
 have red:∀(x y:Addr),(Op.equal t (.pointer (some x)) (.pointer (some y))).run P w=(sameAddr x y).run P w:=fun x y=>equal_of fun d=>by
  simp[Op.equalIn,run_underlying ht,hs,hs0]
 rw[red]
 by_cases hbc:b=c
 ·subst hbc
  rw[if_pos (by simp)] at h8
  rw[hpa] at hpb;injection hpb with hpb;subst hpb
  refine⟨_,h8,?_⟩
  by_cases hop:o=p
  ·subst hop;rw[run_sameAddr_same];simp
  ·have:Nat.beq o p=false:=by cases h:Nat.beq o p with|false=>rfl|true=>exact absurd (Nat.eq_of_beq_eq_true h) hop
   rw[this,run_sameAddr_other w (by simp;exact hop) (by rw[kz] at k1;exact k1) (by rw[kz] at k1;exact k1)]
 ·have hne:Nat.beq b c=false:=by cases h:Nat.beq b c with|false=>rfl|true=>exact absurd (Nat.eq_of_beq_eq_true h) hbc
  rw[hne] at h8
  simp only[Bool.false_eq_true,if_false] at h8
  have hblk:pa.blk≠pb.blk:=fun e=>hbc (hr.apart b c _ _ pa pb h5 h7 hpa hpb e rfl)
  refine⟨_,h8,?_⟩
  rw[run_sameAddr_other w (by simp;exact fun h=>absurd h hblk) (by rw[kz] at k1;exact k1) (by rw[jz] at j1;exact j1)]
theorem eqPtr_ok {t e:TypeId} {a b:AV} {A B:Value} {f:Bool→R} (ht:P.underlying t=some (.pointer e)) (ha:conc ι a=some A) (hb:conc ι b=some B) (h:eqPtr g e m a b f=.ok):
  ∃r,f r=.ok∧(Op.equal t A B).run P w=.ok r w:=by
 unfold eqPtr at h
 split at h
 ·simp only[conc,Option.some.injEq] at ha hb
  subst ha hb
  exact⟨true,h,equal_of fun d=>by simp[Op.equalIn,run_underlying ht]⟩
 ·simp only[conc,Option.some.injEq,Option.map_eq_some_iff] at ha hb
  obtain⟨p,_,rfl⟩:=hb
  subst ha
  exact⟨false,h,equal_of fun d=>by simp[Op.equalIn,run_underlying ht]⟩
 ·simp only[conc,Option.some.injEq,Option.map_eq_some_iff] at ha hb
  obtain⟨p,_,rfl⟩:=ha
  subst hb
  exact⟨false,h,equal_of fun d=>by simp[Op.equalIn,run_underlying ht]⟩
 ·exact ptrEq_ok hg hr ht ha hb h
 ·cases h
end
def capOf (p:Pl) (o:Nat):Option Nat→Nat
 |some c=>c
 |none=>p.ncap - o / p.sz
section
variable {P:Program} {ι:Inj} {w:World} {A B:Value}
theorem conc_nils (h:conc ι .nils=some A):A=.slice none 0 0:=by simp only[conc,Option.some.injEq] at h;exact h.symm
theorem conc_nilm (h:conc ι .nilm=some A):A=.map none:=by simp only[conc,Option.some.injEq] at h;exact h.symm
theorem conc_nilf (h:conc ι .nilf=some A):A=.nilFunc:=by simp only[conc,Option.some.injEq] at h;exact h.symm
theorem conc_nili (h:conc ι .nili=some A):A=.nilIface:=by simp only[conc,Option.some.injEq] at h;exact h.symm
theorem conc_nilp (h:conc ι .nilp=some A):A=.pointer none:=by simp only[conc,Option.some.injEq] at h;exact h.symm
theorem conc_sl' {b o n:Nat} {c:Option Nat} (h:conc ι (.sl b o n c)=some A):∃p,ι b=some p∧A=.slice (some ⟨p.blk,p.delta+o,none⟩) n (capOf p o c)∧(c=none→n+o / p.sz≤p.ncap):=by
 cases c with
 |some c=>simp only[conc,Option.map_eq_some_iff] at h;obtain⟨p,h1,rfl⟩:=h;exact⟨p,h1,rfl,by simp⟩
 |none=>
  simp only[conc,Option.bind_eq_some_iff] at h
  obtain⟨p,h1,h⟩:=h
  split at h
  ·rename_i hle
   injection h with h;subst h;exact⟨p,h1,rfl,fun _=>hle⟩
  ·cases h
theorem conc_sl {b o n:Nat} {c:Option Nat} (h:conc ι (.sl b o n c)=some A):∃p,ι b=some p∧A=.slice (some ⟨p.blk,p.delta+o,none⟩) n (capOf p o c):=by
 obtain⟨p,h1,h2,_⟩:=conc_sl' h;exact⟨p,h1,h2⟩
theorem conc_sl_none {ι:Inj} {b o n:Nat} {p:Pl} (h:ι b=some p) (hle:n+o / p.sz≤p.ncap):conc ι (.sl b o n none)=some (.slice (some ⟨p.blk,p.delta+o,none⟩) n (p.ncap - o / p.sz)):=by
 simp[conc,h,hle]
theorem conc_dead {b o l d:Nat} (h:conc ι (.dead b o l d)=some A):∃p,ι b=some p∧A=.slice (some (if p.ncap - o / p.sz=l then⟨p.blk,p.delta+o,none⟩ else⟨p.blk,p.delta+(o+d),none⟩)) 0 (p.ncap - o / p.sz - l):=by
 simp only[conc,Option.map_eq_some_iff] at h;obtain⟨p,h1,rfl⟩:=h;exact⟨p,h1,rfl⟩
theorem conc_dead' {b o l d:Nat} (h:conc ι (.dead b o l d)=some A):∃b d c,A=.slice (some ⟨b,d,none⟩) 0 c:=by
 obtain⟨p,_,rfl⟩:=conc_dead h
 split<;>exact⟨_,_,_,rfl⟩
theorem conc_mp {b:Nat} (h:conc ι (.mp b)=some A):∃p,ι b=some p∧A=.map (some p.blk):=by
 simp only[conc,Option.map_eq_some_iff] at h;obtain⟨p,h1,rfl⟩:=h;exact⟨p,h1,rfl⟩
theorem conc_ptr {b o:Nat} (h:conc ι (.ptr b o)=some A):∃p,ι b=some p∧A=.pointer (some ⟨p.blk,p.delta+o,none⟩):=by
 simp only[conc,Option.map_eq_some_iff] at h;obtain⟨p,h1,rfl⟩:=h;exact⟨p,h1,rfl⟩
theorem conc_fn {f:Fn} {a c:List AV} (h:conc ι (.fn f a c)=some A):∃f' a' c',concFn ι f=some f'∧concL ι a=some a'∧concL ι c=some c'∧A=.func f' a'.toArray c'.toArray:=by
 simp only[conc,Option.bind_eq_some_iff,Option.map_eq_some_iff] at h
 obtain⟨f',h1,a',h2,c',h3,rfl⟩:=h
 exact⟨f',a',c',h1,h2,h3,rfl⟩
theorem conc_ifc {t:TypeId} {v:AV} (h:conc ι (.ifc t v)=some A):∃V,conc ι v=some V∧A=.iface t V:=by
 simp only[conc,Option.map_eq_some_iff] at h;obtain⟨p,h1,rfl⟩:=h;exact⟨p,h1,rfl⟩
theorem conc_agg {cs:List AV} (h:conc ι (.agg cs)=some A):∃L,concL ι cs=some L∧A=.agg L.toArray:=by
 simp only[conc,Option.map_eq_some_iff] at h;obtain⟨p,h1,rfl⟩:=h;exact⟨p,h1,rfl⟩
theorem conc_tup {cs:List AV} (h:conc ι (.tup cs)=some A):∃L,concL ι cs=some L∧A=.tuple L.toArray:=by
 simp only[conc,Option.map_eq_some_iff] at h;obtain⟨p,h1,rfl⟩:=h;exact⟨p,h1,rfl⟩
def EqOut (P:Program) (t:TypeId) (lit:Bool) (A B:Value) (w:World) (f:Bool→R):Prop:=
 ∃r,f r=.ok∧(Op.equal t A B).run P w=.ok r w∧(A=.nilIface→B=.nilIface→lit=true)∧((∃X Y,A=.agg X∧B=.agg Y)→P.eqGuardType P.depth t=false)
theorem EqOut.mk' {t:TypeId} {lit:Bool} {f:Bool→R} {r:Bool} (h:f r=.ok) (he:∀d:Nat,(Op.equalIn (d+1) t A B).run P w=.ok r w) (h1:A=.nilIface→B=.nilIface→lit=true)
  (h2:∀X,A≠.agg X):EqOut P t lit A B w f:=⟨r,h,equal_of he,h1,fun⟨X,_,e,_⟩=>absurd e (h2 X)⟩
theorem eqNil_ok {t:TypeId} {d:TypeDesc} {lit:Bool} {a b:AV} {f:Bool→R} (ht:P.underlying t=some d) (ha:conc ι a=some A) (hb:conc ι b=some B) (h:eqNil lit d a b f=.ok):EqOut P t lit A B w f:=by
 unfold eqNil at h
 split at h
 ·split at h
  ·rw[conc_nils ha,conc_nils hb];exact .mk' h (fun d=>by simp[Op.equalIn,run_underlying ht]) (by simp) (by simp)
  ·obtain⟨p,_,rfl⟩:=conc_sl hb
   rw[conc_nils ha];exact .mk' h (fun d=>by simp[Op.equalIn,run_underlying ht]) (by simp) (by simp)
  ·obtain⟨p,_,rfl⟩:=conc_sl ha
   rw[conc_nils hb];exact .mk' h (fun d=>by simp[Op.equalIn,run_underlying ht]) (by simp) (by simp)
  ·obtain⟨_,_,_,rfl⟩:=conc_dead' hb
   rw[conc_nils ha];exact .mk' h (fun d=>by simp[Op.equalIn,run_underlying ht]) (by simp) (by simp)
  ·obtain⟨_,_,_,rfl⟩:=conc_dead' ha
   rw[conc_nils hb];exact .mk' h (fun d=>by simp[Op.equalIn,run_underlying ht]) (by simp) (by simp)
  ·cases h
 ·split at h
  ·rw[conc_nilm ha,conc_nilm hb];exact .mk' h (fun d=>by simp[Op.equalIn,run_underlying ht]) (by simp) (by simp)
  ·obtain⟨p,_,rfl⟩:=conc_mp hb
   rw[conc_nilm ha];exact .mk' h (fun d=>by simp[Op.equalIn,run_underlying ht]) (by simp) (by simp)
  ·obtain⟨p,_,rfl⟩:=conc_mp ha
   rw[conc_nilm hb];exact .mk' h (fun d=>by simp[Op.equalIn,run_underlying ht]) (by simp) (by simp)
  ·cases h
 ·split at h
  ·rw[conc_nilf ha,conc_nilf hb];exact .mk' h (fun d=>by simp[Op.equalIn,run_underlying ht]) (by simp) (by simp)
  ·obtain⟨_,_,_,_,_,_,rfl⟩:=conc_fn hb
   rw[conc_nilf ha];exact .mk' h (fun d=>by simp[Op.equalIn,run_underlying ht]) (by simp) (by simp)
  ·obtain⟨_,_,_,_,_,_,rfl⟩:=conc_fn ha
   rw[conc_nilf hb];exact .mk' h (fun d=>by simp[Op.equalIn,run_underlying ht]) (by simp) (by simp)
  ·cases h
 ·split at h
  ·obtain⟨h1,h2⟩:=ifB_ok h
   rw[conc_nili ha,conc_nili hb];exact .mk' h2 (fun d=>by simp[Op.equalIn,run_underlying ht]) (fun _ _=>h1) (by simp)
  ·obtain⟨_,_,rfl⟩:=conc_ifc hb
   rw[conc_nili ha];exact .mk' h (fun d=>by simp[Op.equalIn,run_underlying ht]) (by simp) (by simp)
  ·obtain⟨_,_,rfl⟩:=conc_ifc ha
   rw[conc_nili hb];exact .mk' h (fun d=>by simp[Op.equalIn,run_underlying ht]) (by simp) (by simp)
  ·cases h
 ·cases h
theorem flatEq_ok {g:G} (hg:GOk P g) (hflat:∀t,g.isFlat t=true→Flat P t) {t:TypeId} {xs ys:List AV} {X Y:List Value} {f:Bool→R} (hX:concL ι xs=some X) (hY:concL ι ys=some Y) (h:flatEq g t xs ys f=.ok):
  ∃b,f b=.ok∧(Op.equal t (.agg X.toArray) (.agg Y.toArray)).run P w=.ok b w∧Flat P t:=by
 obtain⟨h1,h2⟩:=ifB_ok h
 obtain⟨z,h3,h4⟩:=optK_ok h2
 obtain⟨h5,h6⟩:=ifB_ok h4
 obtain⟨h7,h8⟩:=ifB_ok h6
 have hF:=hflat t h1
 obtain⟨r,k1,k2⟩:=hF.eq ι xs ys X Y f w z (hg.zero h3) hX hY h5 h7 h8
 exact⟨r,k1,k2,hF⟩
theorem eqK_ok {g:G} {m:Mem} (hg:GOk P g) (hflat:∀t,g.isFlat t=true→Flat P t) (hr:Rel P ι m w) {t:TypeId} {lit:Bool} {a b:AV} {f:Bool→R} (ha:conc ι a=some A) (hb:conc ι b=some B)
  (h:eqK g t lit m a b f=.ok):EqOut P t lit A B w f:=by
 unfold eqK at h
 split at h
 ·rename_i hd
  have ht:=hg.desc hd (by simp)
  split at h
  ·rw[conc_bool ha,conc_bool hb]
   rename_i x y
   refine .mk' h (fun d=>?_) (by simp) (by simp)
   simp[Op.equalIn,run_underlying ht]
   cases x<;>cases y<;>rfl
  ·cases h
 ·rename_i e hd
  have ht:=hg.desc hd (by simp)
  obtain⟨r,h1,h2⟩:=eqPtr_ok hg hr ht ha hb h
  have:(∀X,A≠.agg X)∧A≠.nilIface:=by
   unfold eqPtr at h
   split at h
   ·rw[conc_nilp ha];simp
   ·rw[conc_nilp ha];simp
   ·obtain⟨_,_,rfl⟩:=conc_ptr ha;simp
   ·obtain⟨_,_,rfl⟩:=conc_ptr ha;simp
   ·cases h
  exact⟨r,h1,h2,fun e=>absurd e this.2,fun⟨X,_,e,_⟩=>absurd e (this.1 X)⟩
 ·split at h
  ·obtain⟨X,hX,rfl⟩:=conc_agg ha
   obtain⟨Y,hY,rfl⟩:=conc_agg hb
   obtain⟨r,h3,h4,hF⟩:=flatEq_ok hg hflat hX hY h (w:=w)
   exact⟨r,h3,h4,by simp,fun _=>hF.guard⟩
  ·cases h
 ·split at h
  ·obtain⟨X,hX,rfl⟩:=conc_agg ha
   obtain⟨Y,hY,rfl⟩:=conc_agg hb
   obtain⟨r,h3,h4,hF⟩:=flatEq_ok hg hflat hX hY h (w:=w)
   exact⟨r,h3,h4,by simp,fun _=>hF.guard⟩
  ·cases h
 ·by_cases hd:g.desc t=.invalid
  ·rw[hd] at h;cases h
  ·exact eqNil_ok (hg.desc rfl hd) ha hb h
theorem OutP.mk' {f:AV→R} {v:AV} {V:Value} {r:Result Value} (h:f v=.ok) (hc:conc ι v=some V) (hr:r=.ok V w):OutP P ι w f r:=⟨v,V,h,hc,hr⟩
def guardBody (t:TypeId) (x y:Operand) (A B:Value):Sem Unit:=
 match A,B with
 | .nilIface,.nilIface=>do
  if(x matches .const _)||(y matches .const _) then return
  if←Op.eqGuardIn Op.maxDepth t A B then unsupported (.noEntry "binop/eql: two nil values of an interface type with methods, neither of them the literal nil")
 | .agg _,.agg _=>do
  if !(← program).eqGuardType (← program).depth t then return
  if←Op.eqGuardIn Op.maxDepth t A B then unsupported (.noEntry "binop/eql: two nil values of an interface type with methods, in a part of a struct or an array")
 |_,_=>pure ()
theorem guardBody_run {t:TypeId} {x y:Operand} (h1:A=.nilIface→B=.nilIface→(isLit x=true∨isLit y=true)) (h2:(∃X Y,A=.agg X∧B=.agg Y)→P.eqGuardType P.depth t=false):
  (guardBody t x y A B).run P w=.ok () w:=by
 unfold guardBody
 split
 ·have h:=h1 rfl rfl
  cases x<;>cases y<;>first|rfl|(simp[isLit] at h)
 ·have h:=h2 ⟨_,_,rfl,rfl⟩
  simp[h]
 ·rfl
theorem eqGuard_run {op:BinOp} {t:TypeId} {x y:Operand} (h1:A=.nilIface→B=.nilIface→(isLit x=true∨isLit y=true)) (h2:(∃X Y,A=.agg X∧B=.agg Y)→P.eqGuardType P.depth t=false):
  (eqGuard op t x y A B).run P w=.ok () w:=by
 have key:=guardBody_run (w:=w) h1 h2
 cases op<;>first|rfl|exact key
end
end Go.AM
end
section
namespace Go.AM
section
variable {P:Program} {ι:Inj} {w:World} {A B:Value} {f:AV→R} {a b:AV} {t:TypeId}
theorem str_size (s:List UInt8):(ByteArray.mk s.toArray).size=s.length:=by simp[ByteArray.size]
theorem OutP.mkInt {k:IntKind} {n n':Int} {r:Result Value} (h:f (.int k n)=.ok) (hr:r=.ok (.int k n') w) (e:n'=n:=by first|rfl|(simp;done)):OutP P ι w f r:=by
 subst e;exact .mk' h (by simp[conc]) hr
theorem int2_out {h:IntKind→Int→Int→(AV→R)→R} {op:BinOp} (ha:conc ι a=some A) (hb:conc ι b=some B) (hh:int2 h a b f=.ok)
  (hk:∀k x y,h k x y f=.ok→OutP P ι w f ((binOp op t (.int k x) (.int k y)).run P w)):OutP P ι w f ((binOp op t A B).run P w):=by
 obtain⟨k,x,y,rfl,rfl,h3⟩:=int2_ok hh
 rw[conc_int ha,conc_int hb]
 exact hk k x y h3
theorem int2s_out {h:IntKind→Int→Int→(AV→R)→R} {op:BinOp} (ha:conc ι a=some A) (hb:conc ι b=some B) (hh:int2s h a b f=.ok)
  (hk:∀k x j y,h k x y f=.ok→OutP P ι w f ((binOp op t (.int k x) (.int j y)).run P w)):OutP P ι w f ((binOp op t A B).run P w):=by
 obtain⟨k,x,j,y,rfl,rfl,h3⟩:=int2s_ok hh
 rw[conc_int ha,conc_int hb]
 exact hk k x j y h3
theorem int2_out' {h:IntKind→Int→Int→(AV→R)→R} {Q:Prop} (ha:conc ι a=some A) (hb:conc ι b=some B) (hh:int2 h a b f=.ok)
  (hk:∀k x y,A=.int k x→B=.int k y→h k x y f=.ok→Q):Q:=by
 obtain⟨k,x,y,rfl,rfl,h3⟩:=int2_ok hh
 exact hk k x y (conc_int ha) (conc_int hb) h3
theorem decide_not_lt (x y:Int):(!decide (y<x))=decide (x≤y):=by
 by_cases h:y<x
 ·simp[h]
 ·simp[h];omega
theorem bytesLess_total:∀(a b:List UInt8),(Op.bytesLess a b||a==b)=!Op.bytesLess b a
 |[],[]=>rfl
 |[],_::_=>rfl
 |_::_,[]=>rfl
 |x::a,y::b=>by
  have ih:=bytesLess_total a b
  simp only[Op.bytesLess]
  by_cases e:x=y
  ·subst e
   have:¬x<x:=UInt8.lt_irrefl x
   simp only[this,decide_false,Bool.false_or,beq_self_eq_true,Bool.true_and,←ih]
   congr 1
   rw[Bool.eq_iff_iff];simp
  ·have e':¬y=x:=fun h=>e h.symm
   have h1:(x==y)=false:=by simp[e]
   have h2:(y==x)=false:=by simp[e']
   have h3:(x::a==y::b)=false:=by simp[e]
   rw[h1,h2,h3]
   simp only[Bool.false_and,Bool.or_false]
   rw[Bool.eq_iff_iff]
   simp only[decide_eq_true_iff,Bool.not_eq_true',decide_eq_false_iff_not,UInt8.lt_iff_toNat_lt]
   have:x.toNat≠y.toNat:=fun h=>e (UInt8.toNat_inj.1 h)
   omega
theorem binOp_eql (ha:conc ι a=some A) (h1:∀k n,a≠.int k n) (h2:∀s,a≠.str s):binOp .eql t A B=(do pure (.bool (← Op.equal t A B)):Sem Value):=by
 cases a<;>first|(exact absurd rfl (h1 _ _))|(exact absurd rfl (h2 _))|skip
 case bool=>rw[conc_bool ha];cases B<;>rfl
 case ptr=>obtain⟨_,_,rfl⟩:=conc_ptr ha;cases B<;>rfl
 case nilp=>rw[conc_nilp ha];cases B<;>rfl
 case sl=>obtain⟨_,_,rfl⟩:=conc_sl ha;cases B<;>rfl
 case nils=>rw[conc_nils ha];cases B<;>rfl
 case mp=>obtain⟨_,_,rfl⟩:=conc_mp ha;cases B<;>rfl
 case nilm=>rw[conc_nilm ha];cases B<;>rfl
 case fn=>obtain⟨_,_,_,_,_,_,rfl⟩:=conc_fn ha;cases B<;>rfl
 case nilf=>rw[conc_nilf ha];cases B<;>rfl
 case ifc=>obtain⟨_,_,rfl⟩:=conc_ifc ha;cases B<;>rfl
 case nili=>rw[conc_nili ha];cases B<;>rfl
 case agg=>obtain⟨_,_,rfl⟩:=conc_agg ha;cases B<;>rfl
 case tup=>obtain⟨_,_,rfl⟩:=conc_tup ha;cases B<;>rfl
 case dead=>obtain⟨_,_,_,rfl⟩:=conc_dead' ha;cases B<;>rfl
theorem binOp_neq (ha:conc ι a=some A) (h1:∀k n,a≠.int k n) (h2:∀s,a≠.str s):binOp .neq t A B=(do pure (.bool (!(← Op.equal t A B))):Sem Value):=by
 cases a<;>first|(exact absurd rfl (h1 _ _))|(exact absurd rfl (h2 _))|skip
 case bool=>rw[conc_bool ha];cases B<;>rfl
 case ptr=>obtain⟨_,_,rfl⟩:=conc_ptr ha;cases B<;>rfl
 case nilp=>rw[conc_nilp ha];cases B<;>rfl
 case sl=>obtain⟨_,_,rfl⟩:=conc_sl ha;cases B<;>rfl
 case nils=>rw[conc_nils ha];cases B<;>rfl
 case mp=>obtain⟨_,_,rfl⟩:=conc_mp ha;cases B<;>rfl
 case nilm=>rw[conc_nilm ha];cases B<;>rfl
 case fn=>obtain⟨_,_,_,_,_,_,rfl⟩:=conc_fn ha;cases B<;>rfl
 case nilf=>rw[conc_nilf ha];cases B<;>rfl
 case ifc=>obtain⟨_,_,rfl⟩:=conc_ifc ha;cases B<;>rfl
 case nili=>rw[conc_nili ha];cases B<;>rfl
 case agg=>obtain⟨_,_,rfl⟩:=conc_agg ha;cases B<;>rfl
 case tup=>obtain⟨_,_,rfl⟩:=conc_tup ha;cases B<;>rfl
 case dead=>obtain⟨_,_,_,rfl⟩:=conc_dead' ha;cases B<;>rfl
theorem addS_out {s:List UInt8} (ha:conc ι (.str s)=some A) (hb:conc ι b=some B) (h:addS s b f=.ok):OutP P ι w f ((binOp .add t A B).run P w):=by
 cases b<;>first|(cases h;done)|skip
 rename_i s'
 have h2:appK s s' (fun l=>lenK l fun n=>ifB 0 (Nat.ble n 4611686018427387904) (f (.str l)))=.ok:=h
 rw[appK_eq,lenK_eq] at h2
 obtain⟨h3,h4⟩:=ifB_ok h2
 rw[conc_str ha,conc_str hb]
 have hn:=Nat.le_of_ble_eq_true h3
 simp only[List.length_append] at hn
 refine .mk' h4 (V:=.string (⟨s.toArray⟩++⟨s'.toArray⟩)) ?_ ?_
 ·simp only[conc,Option.some.injEq,Value.string.injEq]
  apply ByteArray.ext
  simp
 ·simp only[binOp,Op.stringOp,str_size]
  rw[if_neg]
  ·rfl
  ·have:IntKind.i64.max=9223372036854775807:=rfl
   rw[this];omega
theorem cmpS_out {h:List UInt8→List UInt8→Bool} {op:BinOp} {s:List UInt8} (ha:conc ι (.str s)=some A) (hb:conc ι b=some B) (hh:cmpS h s b f=.ok)
  (hk:∀s',(Op.stringOp op ⟨s.toArray⟩ ⟨List.toArray s'⟩).run P w=.ok (.bool (h s s')) w) (hop:op≠.shl) (hop':op≠.shr):OutP P ι w f ((binOp op t A B).run P w):=by
 cases b<;>first|(cases hh;done)|skip
 rename_i s'
 have h2:retB (h s s') f=.ok:=hh
 rw[retB_ok] at h2
 rw[conc_str ha,conc_str hb]
 refine .mk' h2 (V:=.bool (h s s')) (by simp[conc]) ?_
 have:binOp op t (.string ⟨s.toArray⟩) (.string ⟨s'.toArray⟩)=Op.stringOp op ⟨s.toArray⟩ ⟨s'.toArray⟩:=by cases op<;>rfl
 rw[this]
 exact hk s'
theorem addV_out (ha:conc ι a=some A) (hb:conc ι b=some B) (h:addV a b f=.ok):OutP P ι w f ((binOp .add t A B).run P w):=by
 cases a<;>first|(cases h;done)|skip
 ·rename_i k n
  refine int2_out ha hb (h:int2 addH (.int k n) b f=.ok) fun k x y h3=>?_
  have h4:=wrapK_ok ((forceI_eq _ _).symm.trans h3)
  exact .mkInt h4 (by simp[binOp,Op.intArith];rfl)
 ·exact addS_out ha hb h
theorem cmpV_out {h:Int→Int→Bool} {hs:List UInt8→List UInt8→Bool} {op:BinOp} (ha:conc ι a=some A) (hb:conc ι b=some B) (hh:cmpV h hs a b f=.ok)
  (hk:∀x y,(Op.intCmp op x y).run P w=.ok (.bool (h x y)) w) (hks:∀s s',(Op.stringOp op ⟨List.toArray s⟩ ⟨List.toArray s'⟩).run P w=.ok (.bool (hs s s')) w)
  (hop:op=.lss∨op=.leq∨op=.gtr∨op=.geq):OutP P ι w f ((binOp op t A B).run P w):=by
 cases a<;>first|(cases hh;done)|skip
 ·rename_i k n
  refine int2_out ha hb (hh:int2 (fun _ x y f=>retB (h x y) f) (.int k n) b f=.ok) fun k x y h3=>?_
  rw[retB_ok] at h3
  refine .mk' h3 (V:=.bool (h x y)) (by simp[conc]) ?_
  have:binOp op t (.int k x) (.int k y)=Op.intCmp op x y:=by rcases hop with rfl|rfl|rfl|rfl<;>simp[binOp]
  rw[this];exact hk x y
 ·rename_i s
  exact cmpS_out ha hb (hh:cmpS hs s b f=.ok) (hks _) (by rcases hop with rfl|rfl|rfl|rfl<;>simp) (by rcases hop with rfl|rfl|rfl|rfl<;>simp)
variable {g:G} {m:Mem} (hg:GOk P g) (hflat:∀t,g.isFlat t=true→Flat P t) (hr:Rel P ι m w)
include hg hflat hr
theorem binK_ok {op:BinOp} {lit:Bool} (x y:Operand) (hl:lit=true→isLit x=true∨isLit y=true) (ha:conc ι a=some A) (hb:conc ι b=some B) (h:binK op g t lit m a b f=.ok):
  OutP P ι w f ((do eqGuard op t x y A B;binOp op t A B:Sem Value).run P w):=by
 have plain:∀ {op:BinOp},(op≠.eql)→(op≠.neq)→OutP P ι w f ((binOp op t A B).run P w)→OutP P ι w f ((do eqGuard op t x y A B;binOp op t A B:Sem Value).run P w):=fun {op} h1 h2 h=>by
  have:(do eqGuard op t x y A B;binOp op t A B:Sem Value)=binOp op t A B:=by
   cases op<;>first|rfl|(exact absurd rfl h1)|(exact absurd rfl h2)
  rw[this];exact h
 have guarded:∀ {op:BinOp} (v:Bool),f (.bool v)=.ok→((A=.nilIface→B=.nilIface→lit=true)∧((∃X Y,A=.agg X∧B=.agg Y)→P.eqGuardType P.depth t=false))→
   (binOp op t A B).run P w=.ok (.bool v) w→OutP P ι w f ((do eqGuard op t x y A B;binOp op t A B:Sem Value).run P w):=fun {op} v h1 h2 h3=>by
  refine .mk' h1 (V:=.bool v) (by simp[conc]) ?_
  rw[Sem.run_bind,eqGuard_run (fun e1 e2=>hl (h2.1 e1 e2)) h2.2]
  exact h3
 cases op
 case add=>exact plain (by simp) (by simp) (addV_out ha hb h)
 case sub=>
  refine plain (by simp) (by simp) (int2_out ha hb (h:int2 subH a b f=.ok) fun k x y h3=>?_)
  have h4:=wrapK_ok ((forceI_eq _ _).symm.trans h3)
  exact .mkInt h4 (by simp[binOp,Op.intArith];rfl)
 case mul=>
  refine plain (by simp) (by simp) (int2_out ha hb (h:int2 mulH a b f=.ok) fun k x y h3=>?_)
  have h4:=wrapK_ok ((forceI_eq _ _).symm.trans h3)
  exact .mkInt h4 (by simp[binOp,Op.intArith];rfl)
 case quo=>
  refine plain (by simp) (by simp) (int2_out ha hb (h:int2 quoH a b f=.ok) fun k x y h3=>?_)
  have h3':iteB (intEq y 0) (.bad 0) (forceI (Int.tdiv x y) fun n=>wrapK k n f)=.ok:=h3
  rw[iteB_eq,intEq_ok] at h3'
  split at h3'
  ·cases h3'
  ·rename_i hy
   have h4:=wrapK_ok ((forceI_eq _ _).symm.trans h3')
   exact .mkInt h4 (by simp at hy;simp[binOp,Op.intDiv,hy];rfl)
 case rem=>
  refine plain (by simp) (by simp) (int2_out ha hb (h:int2 remH a b f=.ok) fun k x y h3=>?_)
  have h3':iteB (intEq y 0) (.bad 0) (forceI (Int.tmod x y) fun n=>f (.int k n))=.ok:=h3
  rw[iteB_eq,intEq_ok] at h3'
  split at h3'
  ·cases h3'
  ·rename_i hy
   have h4:=(forceI_eq _ _).symm.trans h3'
   exact .mkInt h4 (by simp at hy;simp[binOp,Op.intDiv,hy];rfl)
 case and=>
  refine plain (by simp) (by simp) (int2_out ha hb (h:int2 andH a b f=.ok) fun k x y h3=>?_)
  obtain⟨x,y,rfl,rfl,hx,hy,h4⟩:=bitsH_ok h3
  exact .mkInt h4 (by simp[binOp,intBits_and hx hy];rfl)
 case or=>
  refine plain (by simp) (by simp) (int2_out ha hb (h:int2 orH a b f=.ok) fun k x y h3=>?_)
  obtain⟨x,y,rfl,rfl,hx,hy,h4⟩:=bitsH_ok h3
  exact .mkInt h4 (by simp[binOp,intBits_or hx hy];rfl)
 case xor=>
  refine plain (by simp) (by simp) (int2_out ha hb (h:int2 xorH a b f=.ok) fun k x y h3=>?_)
  obtain⟨x,y,rfl,rfl,hx,hy,h4⟩:=bitsH_ok h3
  exact .mkInt h4 (by simp[binOp,intBits_xor hx hy];rfl)
 case andNot=>
  refine plain (by simp) (by simp) (int2_out ha hb (h:int2 andNotH a b f=.ok) fun k x y h3=>?_)
  obtain⟨x,y,rfl,rfl,hx,hy,h4⟩:=bitsH_ok h3
  exact .mkInt h4 (by simp[binOp,intBits_andNot hx hy];rfl)
 case shl=>
  refine plain (by simp) (by simp) (int2s_out ha hb (h:int2s shlH a b f=.ok) fun k x j y h3=>?_)
  obtain⟨y,rfl,h4⟩:=natK_ok h3
  obtain⟨h5,h6⟩:=ifB_ok h4
  have h7:=wrapK_ok ((forceI_eq _ _).symm.trans h6)
  have hy:=Nat.le_of_ble_eq_true h5
  rw[kbits_eq] at hy
  have:¬((y:Int)<0):=by omega
  refine .mkInt h7 (n':=k.wrap (x*2 ^ y)) (by simp only[binOp,Op.shift,this,if_false,Int.toNat_natCast,Nat.min_eq_left hy,Sem.run_pure]) ?_
  show k.wrap (x*2 ^ y)=k.wrap (x*((2 ^ y:Nat):Int))
  rw[Int.natCast_pow];rfl
 case shr=>
  refine plain (by simp) (by simp) (int2s_out ha hb (h:int2s shrH a b f=.ok) fun k x j y h3=>?_)
  obtain⟨x,rfl,h3'⟩:=natK_ok h3
  obtain⟨y,rfl,h4⟩:=natK_ok h3'
  obtain⟨h5,h6⟩:=ifB_ok h4
  have h7:=(forceN_eq _ _).symm.trans h6
  have hy:=Nat.le_of_ble_eq_true h5
  rw[kbits_eq] at hy
  have:¬((y:Int)<0):=by omega
  refine .mkInt h7 (n':=(x:Int).fdiv (2 ^ y)) (by simp only[binOp,Op.shift,this,if_false,Int.toNat_natCast,Nat.min_eq_left hy,Sem.run_pure]) ?_
  rw[Int.fdiv_eq_ediv_of_nonneg _ (by exact_mod_cast Nat.zero_le (2 ^ y))]
  show(x:Int) / 2 ^ y=((x / 2 ^ y:Nat):Int)
  rw[Int.natCast_ediv,Int.natCast_pow];rfl
 case lss=>
  refine plain (by simp) (by simp) (cmpV_out ha hb (h:cmpV intLt strLt a b f=.ok) (fun x y=>?_) (fun s s'=>?_) (by simp))
  ·simp[Op.intCmp,intLt_ok]
  ·simp[Op.stringOp,strLt_ok]
 case leq=>
  refine plain (by simp) (by simp) (cmpV_out ha hb (h:cmpV (fun x y=>Bool.not (intLt y x)) (fun x y=>Bool.not (strLt y x)) a b f=.ok) (fun x y=>?_) (fun s s'=>?_) (by simp))
  ·simp only[Op.intCmp,intLt_ok,Sem.run_pure,decide_not_lt]
  ·simp only[Op.stringOp,ByteArray.toList_mk,strLt_ok,Sem.run_pure,bytesLess_total]
 case gtr=>
  refine plain (by simp) (by simp) (cmpV_out ha hb (h:cmpV (fun x y=>intLt y x) (fun x y=>strLt y x) a b f=.ok) (fun x y=>?_) (fun s s'=>?_) (by simp))
  ·simp[Op.intCmp,intLt_ok]
  ·simp only[Op.stringOp,ByteArray.toList_mk,strLt_ok,Sem.run_pure,bytesLess_total,Bool.not_not]
 case geq=>
  refine plain (by simp) (by simp) (cmpV_out ha hb (h:cmpV (fun x y=>Bool.not (intLt x y)) (fun x y=>Bool.not (strLt x y)) a b f=.ok) (fun x y=>?_) (fun s s'=>?_) (by simp))
  ·simp only[Op.intCmp,intLt_ok,Sem.run_pure,decide_not_lt,ge_iff_le]
  ·simp[Op.stringOp,strLt_ok]
 case eql=>
  have other:eqOther g t lit m a b f=.ok→(∀k n,a≠.int k n)→(∀s,a≠.str s)→OutP P ι w f ((do eqGuard .eql t x y A B;binOp .eql t A B:Sem Value).run P w):=fun h0 n1 n2=>by
   obtain⟨r,h1,h2,h3,h4⟩:=eqK_ok hg hflat hr ha hb (h0:eqK g t lit m a b (fun r=>retB r f)=.ok)
   replace h1:f (.bool r)=.ok:=retB_ok.symm.trans h1
   refine guarded r h1 ⟨h3,h4⟩ ?_
   have e:binOp .eql t A B=(do pure (.bool (← Op.equal t A B)):Sem Value):=binOp_eql ha n1 n2
   rw[e,Sem.run_bind,h2];rfl
  cases a<;>first|(exact other h (by simp) (by simp))|skip
  ·rename_i k n
   refine int2_out' ha hb (h:int2 (fun _ x y f=>retB (intEq x y) f) (.int k n) b f=.ok) fun k x y e1 e2 h3=>?_
   rw[retB_ok,intEq_ok] at h3
   subst e1 e2
   exact guarded _ h3 ⟨by simp,by simp⟩ (by simp[binOp,Op.intCmp])
  ·rename_i s
   have h0:cmpS strEq s b f=.ok:=h
   cases b<;>first|(cases h0;done)|skip
   rename_i s'
   have h1:retB (strEq s s') f=.ok:=h0
   rw[retB_ok,strEq_ok] at h1
   have e1:=conc_str ha
   have e2:=conc_str hb
   subst e1 e2
   exact guarded _ h1 ⟨by simp,by simp⟩ (by simp[binOp,Op.stringOp])
 case neq=>
  have other:neOther g t lit m a b f=.ok→(∀k n,a≠.int k n)→(∀s,a≠.str s)→OutP P ι w f ((do eqGuard .neq t x y A B;binOp .neq t A B:Sem Value).run P w):=fun h0 n1 n2=>by
   obtain⟨r,h1,h2,h3,h4⟩:=eqK_ok hg hflat hr ha hb (h0:eqK g t lit m a b (fun r=>retB (Bool.not r) f)=.ok)
   replace h1:f (.bool (!r))=.ok:=retB_ok.symm.trans h1
   refine guarded (!r) h1 ⟨h3,h4⟩ ?_
   have e:binOp .neq t A B=(do pure (.bool (!(← Op.equal t A B))):Sem Value):=binOp_neq ha n1 n2
   rw[e,Sem.run_bind,h2];rfl
  cases a<;>first|(exact other h (by simp) (by simp))|skip
  ·rename_i k n
   refine int2_out' ha hb (h:int2 (fun _ x y f=>retB (Bool.not (intEq x y)) f) (.int k n) b f=.ok) fun k x y e1 e2 h3=>?_
   rw[retB_ok,intEq_ok] at h3
   subst e1 e2
   exact guarded _ h3 ⟨by simp,by simp⟩ (by simp[binOp,Op.intCmp];rfl)
  ·rename_i s
   have h0:cmpS (fun x y=>Bool.not (strEq x y)) s b f=.ok:=h
   cases b<;>first|(cases h0;done)|skip
   rename_i s'
   have h1:retB (Bool.not (strEq s s')) f=.ok:=h0
   rw[retB_ok,strEq_ok] at h1
   have e1:=conc_str ha
   have e2:=conc_str hb
   subst e1 e2
   exact guarded _ h1 ⟨by simp,by simp⟩ (by simp[binOp,Op.stringOp])
end
end Go.AM
end
section
namespace Go.AM
def Out (P:Program) (ι:Inj) (m:Mem) (w:World) (f:AV→Mem→R) (r:Result Value):Prop:=
 ∃V w' ι' v m',r=.ok V w'∧f v m'=.ok∧Step P ι m w ι' m' w'∧conc ι' v=some V
section
variable {P:Program} {ι:Inj} {m:Mem} {w:World} {A B:Value} {a b:AV} {t:TypeId}
theorem OutP.out {f:AV→Mem→R} {r:Result Value} (hr:Rel P ι m w) (h:OutP P ι w (fun v=>f v m) r):Out P ι m w f r:=by
 obtain⟨v,V,h1,h2,h3⟩:=h
 exact⟨V,w,ι,v,m,h3,h1,.refl hr,h2⟩
theorem add_plain (b o n:Nat):(⟨b,o,none⟩:Addr).add n=⟨b,o+n,none⟩:=by
 unfold Addr.add
 split
 ·rename_i h;subst h;rfl
 ·rfl
theorem cell_of {C:Array Value} {e:TypeId} {fz:Nat×Nat} {b:Nat} (h:w.heap[b]? =some (.cells C e fz)) (o:Nat):w.cell? ⟨b,o,none⟩=C[o]? :=by
 simp[World.cell?,h]
theorem blk_cells {p:Pl} {c:List AV} {e:TypeId} {g:Bool} {z:Nat} (h:BlkRel P ι p (.cells c e g z) w):∃L,concL ι c=some L∧∀i,i<L.length→w.cell? ⟨p.blk,p.delta+i,none⟩=L[i]? :=by
 obtain⟨C,e',fz,L,h1,h2,h3,_⟩:=h
 exact⟨L,h2,fun i hi=>by rw[cell_of h1];exact h3 i hi⟩
theorem loadCells_ok {g:G} (hg:GOk P g) {p:Pl} {c:List AV} {L:List Value} {o s:Nat} {f:AV→R} (hs:g.size t=some s) (hL:concL ι c=some L)
  (hc:∀i,i<L.length→w.cell? ⟨p.blk,p.delta+i,none⟩=L[i]?) (h:loadCells (g.agg t) s c o f=.ok):OutP P ι w f ((loadVar t ⟨p.blk,p.delta+o,none⟩).run P w):=by
 have hagg:=hg.run_agg (t:=t) (G.size_desc hs) w
 have hsz:=hg.run_size hs w
 unfold loadCells at h
 rw[iteB_eq] at h
 split at h<;>rename_i ha
 ·obtain⟨h1,h2⟩:=dropK_ok h
  obtain⟨h3,h4⟩:=takeK_ok h2
  have hl:=concL_take (concL_drop hL o) s
  have hlen:((L.drop o).take s).length=s:=by
   have:=concL_length hL
   simp at h3
   simp;omega
  have hload:(Go.loadCells ⟨p.blk,p.delta+o,none⟩ s).run P w=.ok ((L.drop o).take s).toArray w:=by
   have:=run_loadCells_list (P:=P) w ⟨p.blk,p.delta+o,none⟩ ((L.drop o).take s) (fun j v hv=>by
    rw[add_plain]
    have hj:j<s:=by
     rcases Nat.lt_or_ge j s with h|h
     ·exact h
     ·rw[List.getElem?_eq_none (by omega)] at hv;cases hv
    rw[List.getElem?_take,if_pos hj,List.getElem?_drop] at hv
    rw[Nat.add_assoc,hc (o+j)]
    ·exact hv
    ·rcases Nat.lt_or_ge (o+j) L.length with h|h
     ·exact h
     ·rw[List.getElem?_eq_none h] at hv;cases hv)
   rwa[hlen] at this
  refine .mk' h4 (V:=.agg ((L.drop o).take s).toArray) (by simp[conc,hl]) ?_
  simp[loadVar,hagg,ha,hsz,hload]
 ·obtain⟨v,h1,h2⟩:=nthK_ok h
  obtain⟨V,h3,h4⟩:=concL_get hL h1
  have hlt:o<L.length:=by
   rcases Nat.lt_or_ge o L.length with h|h
   ·exact h
   ·rw[List.getElem?_eq_none h] at h4;cases h4
  have:=hc o hlt
  rw[h4] at this
  refine .mk' h2 h3 ?_
  simp only[Bool.not_eq_true] at ha
  simp[loadVar,hagg,ha,this]
theorem loadK_ok {g:G} (hg:GOk P g) (hr:Rel P ι m w) {s:Nat} {f:AV→R} (hs:g.size t=some s) (ha:conc ι a=some A) (h:loadK (g.agg t) s m a f=.ok):
  OutP P ι w f ((Instr.loadAt t A).run P w):=by
 cases a<;>first|(cases h;done)|skip
 rename_i b o
 obtain⟨p,hp,rfl⟩:=conc_ptr ha
 obtain⟨x,h1,h2⟩:=T.getK_ok (h:m.t.getK b _=.ok)
 cases x<;>first|(cases h2;done)|skip
 rename_i c e gr z
 obtain⟨p',hp',hb⟩:=hr.blk b _ h1
 rw[hp] at hp';injection hp' with hp';subst hp'
 obtain⟨L,h3,h4⟩:=blk_cells hb
 have:=loadCells_ok hg hs h3 h4 (h2:loadCells (g.agg t) s c o f=.ok)
 simpa[Instr.loadAt,Instr.sureAddr] using this
theorem conc_oneCell {v:AV} {V:Value} (h:conc ι v=some V) (hv:v.isCell=true):V.oneCell'=true:=by
 cases v<;>first|(cases hv;done)|skip
 case bool=>rw[conc_bool h];rfl
 case int=>rw[conc_int h];rfl
 case str=>rw[conc_str h];rfl
 case ptr=>obtain⟨_,_,rfl⟩:=conc_ptr h;rfl
 case nilp=>rw[conc_nilp h];rfl
 case sl=>obtain⟨_,_,rfl⟩:=conc_sl h;rfl
 case nils=>rw[conc_nils h];rfl
 case mp=>obtain⟨_,_,rfl⟩:=conc_mp h;rfl
 case nilm=>rw[conc_nilm h];rfl
 case fn=>obtain⟨_,_,_,_,_,_,rfl⟩:=conc_fn h;rfl
 case nilf=>rw[conc_nilf h];rfl
 case ifc=>obtain⟨_,_,rfl⟩:=conc_ifc h;rfl
 case nili=>rw[conc_nili h];rfl
 case dead=>obtain⟨_,_,_,rfl⟩:=conc_dead' h;rfl
theorem allCells_ok:∀ {l:List AV},allCells l=true→∀v∈l,v.isCell=true
 |[],_,v,hv=>by cases hv
 |a::l,h,v,hv=>by
  have h':iteB a.isCell (allCells l) false=true:=h
  rw[iteB_eq] at h'
  split at h'<;>rename_i ha
  ·rcases List.mem_cons.1 hv with rfl|hv
   ·exact ha
   ·exact allCells_ok h' v hv
  ·cases h'
theorem concL_oneCell {l:List AV} {L:List Value} (h:concL ι l=some L) (hl:allCells l=true):∀V∈L,V.oneCell'=true:=by
 intro V hV
 obtain⟨i,hi⟩:=List.mem_iff_getElem?.1 hV
 have:i<l.length:=by
  have:=concL_length h
  rcases Nat.lt_or_ge i l.length with h'|h'
  ·exact h'
  ·rw[List.getElem?_eq_none (by omega)] at hi;cases hi
 obtain⟨V',h1,h2⟩:=concL_get h (List.getElem?_eq_getElem this)
 rw[hi] at h2;injection h2 with h2;subst h2
 exact conc_oneCell h1 (allCells_ok hl _ (List.getElem_mem this))
structure Stored (w w':World) (b o:Nat) (vs:List Value) (C:Array Value) (e:TypeId) (fz:Nat×Nat):Prop where
 blk:∃C':Array Value,w'.heap[b]? =some (.cells C' e fz)∧C'.size=C.size∧∀j,C'[j]? =if o≤j∧j<o+vs.length then vs[j - o]? else C[j]?
 other:∀k,k≠b→w'.heap[k]? =w.heap[k]?
 size:w'.heap.size=w.heap.size
 os:w'.os=w.os
 tape:w'.tape=w.tape
 output:w'.output=w.output
theorem storeCells_run:∀(vs:List Value) (i:Nat) (w:World) (C:Array Value) (b o:Nat) (e:TypeId) (fz:Nat×Nat),w.heap[b]? =some (.cells C e fz)→o+i+vs.length≤C.size→
  (∀j,o+i≤j→j<o+i+vs.length→¬(fz.1≤j∧j<fz.2))→(∀V∈vs,V.oneCell'=true)→
  ∃w',(Go.storeCells ⟨b,o,none⟩ vs i).run P w=.ok () w'∧Stored w w' b (o+i) vs C e fz
 |[],i,w,C,b,o,e,fz,h,_,_,_=>⟨w,rfl,⟨C,h,rfl,fun j=>by rw[if_neg (by intro hh;simp at hh;omega)]⟩,fun _ _=>rfl,rfl,rfl,rfl,rfl⟩
 |v::vs,i,w,C,b,o,e,fz,h,hs,hf,h1=>by
  simp only[List.length_cons] at hs hf
  have hcell:w.cell? ⟨b,o+i,none⟩=some C[o+i]:=by rw[cell_of h];exact Array.getElem?_eq_getElem (by omega)
  have hfz:w.frozen? ⟨b,o+i,none⟩=false:=by
   have:=hf (o+i) (by omega) (by omega)
   simp only[World.frozen?,h]
   simpa using this
  have hst:(store ((⟨b,o,none⟩:Addr).add i) v).run P w=.ok () (w.setCell ⟨b,o+i,none⟩ v):=by
   rw[add_plain,run_store P w _ v _ (h1 v (by simp)),hcell]
   simp[hfz]
  have hb:b<w.heap.size:=by
   rcases Nat.lt_or_ge b w.heap.size with h'|h'
   ·exact h'
   ·rw[Array.getElem?_eq_none h'] at h;cases h
  have h':(w.setCell ⟨b,o+i,none⟩ v).heap[b]? =some (.cells (C.setIfInBounds (o+i) v) e fz):=by
   simp[World.setCell,Array.getElem?_modify,h]
  obtain⟨w',hr,⟨C',k1,k2,k3⟩,k4,k5,k6,k7,k8⟩:=storeCells_run vs (i+1) (w.setCell ⟨b,o+i,none⟩ v) (C.setIfInBounds (o+i) v) b o e fz h' (by simp;omega) (fun j hj1 hj2=>hf j (by omega) (by omega)) (fun V hV=>h1 V (by simp[hV]))
  refine⟨w',?_,⟨C',k1,by simpa using k2,fun j=>?_⟩,fun k hk=>?_,?_,k6,k7,k8⟩
  ·simp only[Go.storeCells,Sem.run_bind,hst,Result.andThen_ok,hr]
  ·rw[k3]
   by_cases hj:j=o+i
   ·subst hj
    rw[if_neg (by omega),if_pos (by simp)]
    simp
    exact Array.getElem?_setIfInBounds_self_of_lt (by omega)
   ·by_cases hj2:o+(i+1)≤j∧j<o+(i+1)+vs.length
    ·rw[if_pos hj2,if_pos (by simp;omega)]
     rw[show j - (o+i)=(j - (o+(i+1)))+1 by omega]
     simp
    ·rw[if_neg hj2,if_neg (by simp;omega)]
     rw[Array.getElem?_setIfInBounds_ne (by omega)]
  ·rw[k4 k hk]
   simp[World.setCell,Array.getElem?_modify,Ne.symm hk]
  ·rw[k5];simp[World.setCell]
theorem Step.store (hr:Rel P ι m w) {b o:Nat} {c c':List AV} {e:TypeId} {gr:Bool} {z:Nat} {p:Pl} (hb:m.t.find b b=some (.cells c e gr z)) (hz:Nat.ble z 1=true) (hp:ι b=some p)
  {vs:List AV} {L:List Value} (hL:concL ι vs=some L) (hcell:∀V∈L,V.oneCell'=true) (ho:o+vs.length≤c.length) (hlen:c'.length=c.length)
  (hget:∀i,c'[i]? =if o≤i∧i<o+vs.length then vs[i - o]? else c[i]?) {f:Mem→R} (h:putK m b (.cells c' e gr z) f=.ok):
  ∃w' m',(Go.storeCells ⟨p.blk,p.delta+o,none⟩ L).run P w=.ok () w'∧f m'=.ok∧Step P ι m w ι m' w':=by
 obtain⟨t',h1,h2⟩:=T.setK_ok (h:m.t.setK b _ _=.ok)
 obtain⟨p',hp',hb'⟩:=hr.blk b _ hb
 rw[hp] at hp';injection hp' with hp';subst hp'
 obtain⟨C,e',fz,LC,k1,k2,k3,k4,k5⟩:=hb'
 have hz1:=Nat.le_of_ble_eq_true hz
 obtain⟨rfl,k6,k7,k8⟩:=k5 (by omega)
 have hLl:=concL_length hL
 have hLCl:=concL_length k2
 have hfz:∀j,j<C.size→¬(fz.1≤j∧j<fz.2):=fun j hj=>by
  rcases(show z=0∨z=1 by omega) with rfl|rfl
  ·rw[k8.1 rfl];simp
  ·rcases k8.2.1 rfl with h|h<;>rw[h]<;>simp;omega
 have hsize:p.delta+c.length≤C.size:=by
  rcases Nat.eq_zero_or_pos c.length with h0|h0
  ·cases gr with
   |false=>obtain⟨d0,d1⟩:=k6 rfl;omega
   |true=>have:=k7 rfl;omega
  ·have h3:=k3 (LC.length - 1) (by omega)
   have:(LC[LC.length - 1]?).isSome=true:=by rw[List.getElem?_eq_getElem (by omega)];rfl
   rw[←h3] at this
   rcases Nat.lt_or_ge (p.delta+(LC.length - 1)) C.size with h'|h'
   ·omega
   ·rw[Array.getElem?_eq_none h'] at this;cases this
 obtain⟨w',hrun,⟨C',j1,j2,j3⟩,j4,j5,j6,j7,j8⟩:=storeCells_run (P:=P) L 0 w C p.blk (p.delta+o) e' fz k1 (by omega) (fun j _ hj=>hfz j (by omega)) hcell
 refine⟨w',_,hrun,h1,Step.put hr hb (by cases z<;>first|rfl|(rename_i n;cases n<;>first|rfl|omega)) hp h2 j5 j4 j6 j7 j8 ?_⟩
 have hc':∃L',concL ι c'=some L'∧∀i,i<L'.length→C'[p.delta+i]? =L'[i]? :=by
  have hlen':∀i,i<c'.length→∃v V,c'[i]? =some v∧conc ι v=some V∧C'[p.delta+i]? =some V:=fun i hi=>by
   rw[hget i,j3]
   by_cases hio:o≤i∧i<o+vs.length
   ·rw[if_pos hio,if_pos (by omega)]
    have hv:vs[i - o]? =some vs[i - o]:=List.getElem?_eq_getElem (by omega)
    obtain⟨V,q1,q2⟩:=concL_get hL hv
    refine⟨_,V,hv,q1,?_⟩
    rw[show p.delta+i - (p.delta+o+0)=i - o by omega];exact q2
   ·rw[if_neg hio,if_neg (by omega)]
    have hv:c[i]? =some c[i]:=List.getElem?_eq_getElem (by omega)
    obtain⟨V,q1,q2⟩:=concL_get k2 hv
    refine⟨_,V,hv,q1,?_⟩
    rw[k3 i (by omega)];exact q2
  refine⟨(List.range c'.length).map fun i=>C'.getD (p.delta+i) undef,?_,?_⟩
  ·refine concL_of (by simp) fun i v hv=>?_
   have hi:i<c'.length:=by
    rcases Nat.lt_or_ge i c'.length with h|h
    ·exact h
    ·rw[List.getElem?_eq_none h] at hv;cases hv
   obtain⟨v',V,q1,q2,q3⟩:=hlen' i hi
   rw[hv] at q1;injection q1 with q1;subst q1
   exact⟨V,q2,by simp[hi,Array.getD_eq_getD_getElem?,q3]⟩
  ·intro i hi
   simp at hi
   obtain⟨v',V,q1,q2,q3⟩:=hlen' i hi
   simp[hi,Array.getD_eq_getD_getElem?,q3]
 obtain⟨L',hL',hL''⟩:=hc'
 refine⟨C',e',fz,L',j1,hL',hL'',k4,fun hz3=>⟨rfl,fun hg=>?_,fun hg=>?_,?_⟩⟩
 ·obtain⟨d0,d1⟩:=k6 hg;exact⟨d0,by omega⟩
 ·rw[j2];exact k7 hg
 ·rw[j2,hlen];exact k8
theorem storeK_ok {g:G} (hg:GOk P g) (hr:Rel P ι m w) {s:Nat} {f:Mem→R} (hs:g.size t=some s) (ha:conc ι a=some A) (hb:conc ι b=some B) (h:storeK s m a b f=.ok):
  ∃w' m',(Instr.storeAt t A B).run P w=.ok () w'∧f m'=.ok∧Step P ι m w ι m' w':=by
 cases a<;>first|(cases h;done)|skip
 rename_i bl o
 obtain⟨p,hp,rfl⟩:=conc_ptr ha
 obtain⟨x,h1,h2⟩:=T.getK_ok (h:m.t.getK bl _=.ok)
 cases x<;>first|(cases h2;done)|skip
 rename_i c e gr z
 obtain⟨h3,h4⟩:=ifB_ok h2
 have hsz:=hg.run_size hs w
 have fin:∀ {vs:List AV} {c':List AV},b.cells=vs→vs.length=s→allCells vs=true→o+vs.length≤c.length→c'.length=c.length→(∀i,c'[i]? =if o≤i∧i<o+vs.length then vs[i - o]? else c[i]?)→
   putK m bl (.cells c' e gr z) f=.ok→∃w' m',(Instr.storeAt t (.pointer (some ⟨p.blk,p.delta+o,none⟩)) B).run P w=.ok () w'∧f m'=.ok∧Step P ι m w ι m' w':=fun {vs c'} e1 e2 e3 e4 e5 e6 e7=>by
  have hL:=conc_cells hb
  rw[e1] at hL
  obtain⟨w',m',k1,k2,k3⟩:=Step.store hr h1 h3 hp hL (concL_oneCell hL e3) e4 e5 e6 e7
  refine⟨w',m',?_,k2,k3⟩
  have hl:=concL_length hL
  have:B.cells.size=s:=by simp at hl;omega
  simp[Instr.storeAt,Instr.sureAddr,storeVar,hsz,this]
  exact k1
 have one:storeOne s c o b (fun c=>putK m bl (.cells c e gr z) f)=.ok→b.isCell=true→b.cells=[b]→∃w' m',(Instr.storeAt t (.pointer (some ⟨p.blk,p.delta+o,none⟩)) B).run P w=.ok () w'∧f m'=.ok∧Step P ι m w ι m' w':=fun h0 e1 e2=>by
  obtain⟨h5,h6⟩:=ifB_ok h0
  obtain⟨h7,h8⟩:=setNthK_ok h6
  refine fin e2 (Nat.eq_of_beq_eq_true h5) ?_ (by simp;omega) (by simp) (fun i=>?_) h8
  ·show iteB b.isCell true false=true
   rw[e1];rfl
  ·rw[List.getElem?_set]
   by_cases hi:o=i
   ·subst hi;simp[h7]
   ·rw[if_neg hi,if_neg (by simp;omega)]
 cases b<;>first|(exact one h4 rfl rfl)|skip
 case agg vs=>
  have h4':lenK vs (fun n=>ifB 0 (Nat.beq n s) (ifB 0 (allCells vs) (spliceK c o vs fun c=>putK m bl (.cells c e gr z) f)))=.ok:=h4
  rw[lenK_eq] at h4'
  obtain⟨h5,h6⟩:=ifB_ok h4'
  obtain⟨h7,h8⟩:=ifB_ok h6
  obtain⟨h9,h10⟩:=spliceK_ok h8
  exact fin rfl (Nat.eq_of_beq_eq_true h5) h7 h9 (splice_length h9) (splice_get h9) h10
 case tup vs=>cases h4
theorem newK_ok {x:Blk} {f:Nat→Mem→R} (h:newK m x f=.ok):∃t',t'.sub m.t m.next x∧f m.next ⟨m.next+1,t'⟩=.ok:=by
 have h':m.t.setK m.next x (fun t=>forceN (Nat.succ m.next) fun n'=>f m.next ⟨n',t⟩)=.ok:=h
 obtain⟨t',h1,h2⟩:=T.setK_ok h'
 rw[forceN_eq] at h1
 exact⟨t',h2,h1⟩
theorem Step.cells (hr:Rel P ι m w) {l:List AV} {L:List Value} {e:TypeId} {gr:Bool} {z:Nat} {f:Nat→Mem→R} (hL:concL ι l=some L) {C:Array Value} {ncap sz:Nat}
  (hC:∀i,i<L.length→C[i]? =L[i]?) (hx:gr=false→C.size=l.length) (hy:gr=true→sz=P.cellsOf e∧1≤sz∧C.size=ncap*sz) (h:newK m (.cells l e gr z) f=.ok):
  ∃ι' m',f m.next m'=.ok∧Step P ι m w ι' m' {w with heap:=w.heap.push (.cells C e)}∧ι' m.next=some ⟨w.heap.size,0,ncap,sz⟩:=by
 obtain⟨t',h1,h2⟩:=newK_ok h
 refine⟨ι.set m.next ⟨w.heap.size,0,ncap,sz⟩,_,h2,Step.new hr h1 (p:=⟨w.heap.size,0,ncap,sz⟩) rfl rfl rfl rfl rfl ?_,by simp[Inj.set]⟩
 refine⟨C,e,(0,0),L,by simp,concL_mono (Inj.le_set (hr.fresh _ (Nat.le_refl _))) hL,fun i hi=>by simpa using hC i hi,fun hg=>⟨(hy hg).1,(hy hg).2.1⟩,fun _=>⟨rfl,fun hg=>⟨rfl,hx hg⟩,fun hg=>?_,?_⟩⟩
 ·rw[(hy hg).2.2];simp
 ·exact⟨fun _=>rfl,fun _=>.inl rfl,fun _=>Nat.zero_le _⟩
theorem newVar_ok (hr:Rel P ι m w) {e:TypeId} {v:AV} {V:Value} {f:AV→Mem→R} (hv:conc ι v=some V) (h:newK m (.cells v.cells e false 0) (fun b m=>f (.ptr b 0) m)=.ok):
  Out P ι m w f ((do pure (.pointer (some (← newVar e V))):Sem Value).run P w):=by
 obtain⟨ι',m',h1,h2,h3⟩:=Step.cells hr (C:=V.cells) (ncap:=0) (sz:=0) (conc_cells hv) (fun i _=>by simp) (fun _=>by have:=concL_length (conc_cells hv);simpa using this) (by simp) h
 exact⟨_,_,ι',_,m',by simp[newVar,newRow];rfl,h1,h2,by simp[conc,h3]⟩
theorem alloc_ok {g:G} (hg:GOk P g) (hr:Rel P ι m w) {e:TypeId} {z:AV} {f:AV→Mem→R} (hz:g.zero e=some z) (h:newK m (.cells z.cells e false 0) (fun b m=>f (.ptr b 0) m)=.ok):
  Out P ι m w f ((Instr.alloc e true (.tuple #[])).run P w):=by
 obtain⟨Z,h1,h2⟩:=G.zero_ok hg (ι:=ι) hz w
 have:=newVar_ok hr h2 h
 simpa[Instr.alloc,h1] using this
theorem box_ok (hr:Rel P ι m w) {e:TypeId} {v:AV} {V:Value} {f:AV→Mem→R} (hv:conc ι v=some V) (h:newK m (.cells v.cells e false 0) (fun b m=>f (.ptr b 0) m)=.ok):
  Out P ι m w f ((Instr.box e V).run P w):=newVar_ok hr hv h
theorem foldl_set_list (off:Nat):∀(vs:List Value) (k:Nat) (C:Array Value),off+k+vs.length≤C.size→
  ((vs.zipIdx k).foldl (fun(cs:Array Value) (x:Value×Nat)=>cs.setIfInBounds (off+x.2) x.1) C).toList=splice C.toList (off+k) vs
 |[],k,C,_=>by simp[splice,over]
 |v::vs,k,C,h=>by
  simp only[List.length_cons] at h
  simp only[List.zipIdx_cons,List.foldl_cons]
  rw[foldl_set_list off vs (k+1) _ (by simp;omega)]
  apply List.ext_getElem?
  intro i
  rw[splice_get (by simp;omega),splice_get (by simp;omega)]
  simp only[Array.toList_setIfInBounds,List.getElem?_set,List.length_cons,Array.length_toList]
  by_cases h1:off+(k+1)≤i∧i<off+(k+1)+vs.length
  ·rw[if_pos h1,if_pos (by omega),show i - (off+k)=(i - (off+(k+1)))+1 by omega];simp
  ·rw[if_neg h1]
   by_cases h2:off+k=i
   ·subst h2;rw[if_pos rfl,if_pos (by omega),if_pos (by omega)];simp
   ·rw[if_neg h2,if_neg (by omega)]
theorem foldl_set_get (vs C:Array Value) (off:Nat) (h:off+vs.size≤C.size):(vs.zipIdx.foldl (fun cs (x:Value×Nat)=>cs.setIfInBounds (off+x.2) x.1) C).toList=splice C.toList off vs.toList:=by
 rw[←Array.foldl_toList]
 have:=foldl_set_list off vs.toList 0 C (by simpa using h)
 simpa using this
variable {fr:Fr} {mask:Nat} {act:Act} {g:G}
theorem fillK_ok (hr:Rel P ι m w) (hf:FrRel P ι fr mask act.tmps) {place:Nat→Option (Nat×Nat)}:∀ {parts:List (Nat×Operand)} {cs:List AV} {CS:Array Value} {f:List AV→R},concL ι cs=some CS.toList→
  fillK place fr parts cs f=.ok→∃l L,f l=.ok∧concL ι l=some L∧Instr.fill place CS (parts.map fun p=>(p.1,act.eval p.2))=some L.toArray
 |[],cs,CS,f,hc,h=>⟨cs,CS.toList,h,hc,by simp[Instr.fill]⟩
 |(i,x)::parts,cs,CS,f,hc,h=>by
  have h0:ev x fr (fun v=>optK 0 (place i) fun pl=>lenK v.cells fun n=>ifB 0 (Nat.beq n pl.2) (spliceK cs pl.1 v.cells fun cs=>fillK place fr parts cs f))=.ok:=h
  obtain⟨v,h1,h2⟩:=ev_ok hr hf h0
  obtain⟨pl,h3,h4⟩:=optK_ok h1
  rw[lenK_eq] at h4
  obtain⟨h5,h6⟩:=ifB_ok h4
  obtain⟨h7,h8⟩:=spliceK_ok h6
  have hv:=conc_cells h2
  have hvl:=concL_length hv
  have hcl:=concL_length hc
  have hsz:=Nat.eq_of_beq_eq_true h5
  simp only[Array.length_toList] at hvl hcl
  have hset:=foldl_set_get (act.eval x).cells CS pl.1 (by omega)
  have hc':concL ι (splice cs pl.1 v.cells)=some (splice CS.toList pl.1 (act.eval x).cells.toList):=by
   unfold splice over
   exact concL_append (concL_take hc _) (by
    have:(act.eval x).cells.toList.length=v.cells.length:=by simp;omega
    rw[this]
    exact concL_append hv (concL_drop (concL_drop hc _) _))
  rw[←hset] at hc'
  obtain⟨l,L,k1,k2,k3⟩:=fillK_ok hr hf hc' h8
  refine⟨l,L,k1,k2,?_⟩
  simp only[List.map_cons,Instr.fill,h3]
  rw[if_neg (by simp;omega)]
  simpa using k3
end
end Go.AM
end
section
namespace Go.AM
section
variable {P:Program} {ι:Inj} {m:Mem} {w:World} {A B:Value} {a b:AV} {t:TypeId} {fr:Fr} {mask:Nat} {act:Act} {g:G}
theorem G.zero_info {P:Program} {g:G} (hg:GOk P g) {t:TypeId} {a:AV} (h:g.zero t=some a) (ι:Inj):∃i z,P.info? t=some i∧i.zero=some z∧conc ι a=some z:=by
 unfold G.zero at h
 split at h
 ·rename_i i hi
  split at h
  ·rename_i z hz
   exact⟨i,z,hg.info hi,hz,absV_ok h⟩
  ·cases h
 ·cases h
theorem places_ok (hg:GOk P g):∀ {fs:List Field} {l:List (Nat×Nat)},fs.mapM (fun f=>(g.info f.type).map fun i=>(f.offset,i.size))=some l→
  fs.mapM (fun f=>(P.info? f.type).map fun i=>(f.offset,i.size))=some l
 |[],l,h=>h
 |f::fs,l,h=>by
  simp only[List.mapM_cons,Option.bind_eq_bind,Option.pure_def,Option.bind_eq_some_iff,Option.map_eq_some_iff] at h ⊢
  obtain⟨a,⟨i,hi,rfl⟩,l',hl,h⟩:=h
  exact⟨_,⟨i,hg.info hi,rfl⟩,l',places_ok hg hl,h⟩
theorem buildK_ok (hg:GOk P g) (hr:Rel P ι m w) (hf:FrRel P ι fr mask act.tmps) {parts:Array (Nat×Operand)} {f:AV→R} (h:buildK g t fr parts.toList f=.ok):
  OutP P ι w f ((Instr.build t (parts.map fun(i,x)=>(i,act.eval x))).run P w):=by
 obtain⟨z,h1,h2⟩:=optK_ok h
 obtain⟨i,Z,k1,k2,k3⟩:=G.zero_info hg h1 ι
 split at h2<;>first|(cases h2;done)|skip
 rename_i zs
 obtain⟨L,k4,rfl⟩:=conc_agg k3
 have hparts:(parts.map fun(i,x)=>(i,act.eval x)).toList=parts.toList.map fun p=>(p.1,act.eval p.2):=by simp
 split at h2<;>first|(cases h2;done)|skip
 ·rename_i fs hd
  obtain⟨l,h3,h4⟩:=optK_ok h2
  obtain⟨c,C,h5,h6,h7⟩:=fillK_ok hr hf (CS:=L.toArray) (by simpa using k4) h4
  have hb:P.built t (parts.map fun(i,x)=>(i,act.eval x)).toList=some C.toArray:=by
   have hu:=hg.desc hd (by simp)
   have hp:=places_ok hg h3
   unfold Program.built
   simp only[k1,hu,k2,hp,hparts]
   simpa[Value.cells] using h7
  exact .mk' h5 (by simp[conc,h6]) (run_build w t _ _ hb)
 ·rename_i n e hd
  obtain⟨s,h3,h4⟩:=optK_ok h2
  obtain⟨c,C,h5,h6,h7⟩:=fillK_ok hr hf (CS:=L.toArray) (by simpa using k4) h4
  obtain⟨ie,hie,hs⟩:=hg.size h3
  have hb:P.built t (parts.map fun(i,x)=>(i,act.eval x)).toList=some C.toArray:=by
   have hu:=hg.desc hd (by simp)
   unfold Program.built
   simp only[k1,hu,k2,hie,hparts,hs]
   simpa[Value.cells] using h7
  exact .mk' h5 (by simp[conc,h6]) (run_build w t _ _ hb)
theorem mem_repl {α:Type} [Inhabited α] (zero:Array α) (n:Nat) (h:0<zero.size):((Array.range (n*zero.size)).map (fun i=>zero[i % zero.size]!)).toList=(List.replicate n zero.toList).flatten:=by
 induction n with
 |zero=>simp
 |succ n ih=>
  rw[List.replicate_succ',List.flatten_append,←ih]
  apply List.ext_getElem?
  intro i
  simp only[Array.toList_map,Array.toList_range,List.getElem?_map,List.flatten_singleton]
  rw[List.getElem?_append]
  simp only[List.length_map,List.length_range,List.getElem?_map]
  rw[Nat.succ_mul]
  by_cases h1:i<n*zero.size
  ·rw[if_pos h1,List.getElem?_range (by omega),List.getElem?_range h1]
  ·rw[if_neg h1]
   by_cases h2:i<n*zero.size+zero.size
   ·rw[List.getElem?_range h2]
    have e:i % zero.size=i - n*zero.size:=by
     have:i=(i - n*zero.size)+n*zero.size:=by omega
     conv=>lhs;rw[this]
     rw[Nat.add_mul_mod_self_right]
     exact Nat.mod_eq_of_lt (by omega)
    simp only[Option.map_some,e]
    rw[getElem!_pos zero _ (by omega)]
    simp
   ·rw[List.getElem?_eq_none (by simp;omega),List.getElem?_eq_none (by simp;omega)]
    rfl
theorem buildSliceK_ok (hg:GOk P g) (hr:Rel P ι m w) (hf:FrRel P ι fr mask act.tmps) {n:Nat} {parts:Array (Nat×Operand)} {f:AV→Mem→R} (h:buildSliceK g t n fr parts.toList m f=.ok):
  Out P ι m w f ((Instr.buildSlice t n (parts.map fun(i,x)=>(i,act.eval x))).run P w):=by
 unfold buildSliceK at h
 split at h<;>first|(cases h;done)|skip
 rename_i e hd
 have hu:=hg.run_desc hd (by simp) w
 obtain⟨s,h1,h2⟩:=optK_ok h
 obtain⟨h3,h4⟩:=ifB_ok h2
 obtain⟨h5,h6⟩:=ifB_ok h4
 obtain⟨z,h7,h8⟩:=optK_ok h6
 rw[lenK_eq] at h8
 obtain⟨h9,h10⟩:=ifB_ok h8
 rw[replK_eq] at h10
 have hs:=hg.run_size h1 w
 obtain⟨Z,k1,k2⟩:=G.zero_ok hg (ι:=ι) h7 w
 have hz:=conc_cells k2
 have hzl:=concL_length hz
 have hzs:=Nat.eq_of_beq_eq_true h9
 have h1s:=Nat.le_of_ble_eq_true h3
 simp only[Array.length_toList] at hzl
 have hmany:∀n,concL ι (List.replicate n z.cells).flatten=some (List.replicate n Z.cells.toList).flatten:=fun n=>by
  induction n with
  |zero=>simp[concL]
  |succ n ih=>simp only[List.replicate_succ,List.flatten_cons];exact concL_append hz ih
 obtain⟨zero,hzero,hrow⟩:∃zero:Array Value,((if n*s=0 then pure #[] else do pure (← zeroValue e).cells:Sem (Array Value)).run P w=.ok zero w)∧
   ((Array.range (n*s)).map (fun i=>zero[i % zero.size]!)).toList=(List.replicate n Z.cells.toList).flatten:=by
  by_cases hn:n*s=0
  ·refine⟨#[],by simp[hn],?_⟩
   have:n=0:=by
    rcases Nat.mul_eq_zero.1 hn with h|h
    ·exact h
    ·omega
   simp[this]
  ·refine⟨Z.cells,by simp[hn,k1],?_⟩
   have:=mem_repl Z.cells n (by omega)
   rw[←this,show Z.cells.size=s by omega]
 obtain⟨l,L,j1,j2,j3⟩:=fillK_ok hr hf (CS:=(Array.range (n*s)).map (fun i=>zero[i % zero.size]!)) (by rw[hrow];exact hmany n) h10
 obtain⟨ι',m',i1,i2,i3⟩:=Step.cells hr (C:=L.toArray) (ncap:=0) (sz:=0) j2 (fun i _=>by simp) (fun _=>by have:=concL_length j2;simpa using this) (by simp) j1
 refine⟨_,_,ι',_,m',?_,i1,i2,by simp[conc,i3];rfl⟩
 have hparts:(parts.map fun(i,x)=>(i,act.eval x)).toList=parts.toList.map fun p=>(p.1,act.eval p.2):=by simp
 have hlim:¬(n*s>16777216):=by have:=Nat.le_of_ble_eq_true h5;simp at this;omega
 have j3':Instr.fill (fun i=>some (i*s,s)) ((Array.range (n*s)).map fun i=>zero[i % zero.size]!) (parts.toList.map fun p=>(p.1,act.eval p.2))=some L.toArray:=j3
 by_cases hn:n*s=0
 ·have hz0:zero= #[]:=by
   rw[if_pos hn] at hzero
   simpa using hzero.symm
  subst hz0
  simp only[Instr.buildSlice,Sem.run_bind,hu,Result.andThen_ok,hs,Sem.run_ite,hlim,if_false,hparts,if_pos hn,Sem.run_pure]
  rw[j3']
  rfl
 ·have hz0:zero=Z.cells:=by
   rw[if_neg hn] at hzero
   simpa[k1] using hzero.symm
  subst hz0
  simp only[Instr.buildSlice,Sem.run_bind,hu,Result.andThen_ok,hs,Sem.run_ite,hlim,if_false,hparts,if_neg hn,k1,Sem.run_pure]
  rw[j3']
  rfl
end
end Go.AM
end
section
namespace Go.AM
section
variable {P:Program} {ι:Inj} {m:Mem} {w:World} {A B:Value} {a b:AV} {t:TypeId} {g:G}
theorem concL_repl {l:List AV} {L:List Value} (h:concL ι l=some L) (n:Nat):concL ι (List.replicate n l).flatten=some (List.replicate n L).flatten:=by
 induction n with
 |zero=>simp[concL]
 |succ n ih=>simp only[List.replicate_succ,List.flatten_cons];exact concL_append h ih
theorem makeSliceK_ok (hg:GOk P g) (hr:Rel P ι m w) {f:AV→Mem→R} (ha:conc ι a=some A) (hb:conc ι b=some B) (h:makeSliceK g t a b m f=.ok):Out P ι m w f ((Instr.makeSlice t A B).run P w):=by
 unfold makeSliceK at h
 split at h<;>first|(cases h;done)|skip
 rename_i e hd
 have hu:=hg.run_desc hd (by simp) w
 obtain⟨k,l,rfl,h1⟩:=asNatK_ok h
 obtain⟨j,c,rfl,h2⟩:=asNatK_ok h1
 obtain⟨h3,h4⟩:=ifB_ok h2
 obtain⟨h5,h6⟩:=ifB_ok h4
 obtain⟨s,h7,h8⟩:=optK_ok h6
 obtain⟨h9,h10⟩:=ifB_ok h8
 obtain⟨z,h11,h12⟩:=optK_ok h10
 rw[lenK_eq] at h12
 obtain⟨h13,h14⟩:=ifB_ok h12
 obtain⟨ie,h15,h16⟩:=optK_ok h14
 obtain⟨h17,h18⟩:=ifB_ok h16
 rw[replK_eq] at h18
 have hs:=hg.run_size h7 w
 have hi:=hg.info h15
 obtain⟨Z,k1,k2⟩:=G.zero_ok hg (ι:=ι) h11 w
 have hz:=conc_cells k2
 have hzl:=concL_length hz
 have hzs:=Nat.eq_of_beq_eq_true h13
 have hs1:=Nat.le_of_ble_eq_true h9
 have hlc:=Nat.le_of_ble_eq_true h3
 have hc:=Nat.le_of_ble_eq_true h5
 have hby:=Nat.le_of_ble_eq_true h17
 simp only[Array.length_toList] at hzl
 rw[conc_int ha,conc_int hb]
 obtain⟨ι',m',i1,i2,i3⟩:=Step.cells hr (C:=(List.replicate c Z.cells.toList).flatten.toArray) (ncap:=0) (sz:=0) (concL_repl hz c) (fun i _=>by simp) (fun _=>by rw[List.size_toArray];exact concL_length (concL_repl hz c)) (by simp) h18
 refine⟨_,_,ι',_,m',?_,i1,i2,by simp[conc,i3];rfl⟩
 have hw1:IntKind.i64.wrap (l:Int)=l:=i64_wrap (by omega) (by omega)
 have hw2:IntKind.i64.wrap (c:Int)=c:=i64_wrap (by omega) (by omega)
 have hb1:¬((ie.bytes:Int)*(c:Int)>2 ^ 48):=by
  have h0:((ie.bytes*c:Nat):Int)≤((281474976710656:Nat):Int):=Int.ofNat_le.2 hby
  rw[Int.natCast_mul] at h0
  have h1:((281474976710656:Nat):Int)=2 ^ 48:=by decide
  rw[h1] at h0
  exact Int.not_lt.2 h0
 have hcond:((decide ((c:Int)<0)||decide ((ie.bytes:Int)*(c:Int)>2 ^ 48))||decide ((l:Int)<0)||decide ((l:Int)>(c:Int)))=false:=by
  simp only[Bool.or_eq_false_iff,decide_eq_false_iff_not]
  exact⟨⟨⟨by omega,hb1⟩,by omega⟩,by omega⟩
 have hrow:∀zero:Array Value,(c*s=0→zero= #[])→(c*s≠0→zero=Z.cells)→((Array.range (c*s)).map (fun i=>zero[i % zero.size]!))=(List.replicate c Z.cells.toList).flatten.toArray:=fun zero e1 e2=>by
  apply Array.toList_inj.1
  by_cases hn:c*s=0
  ·have:c=0:=by
    rcases Nat.mul_eq_zero.1 hn with h|h
    ·exact h
    ·omega
   simp[this]
  ·rw[e2 hn]
   have:=mem_repl Z.cells c (by omega)
   rw[←this,show Z.cells.size=s by omega]
 simp only[Instr.makeSlice,Sem.run_bind,hu,Result.andThen_ok,asInt,asIntOf,Sem.run_pure,typeInfo,run_program,hi,hw1,hw2,Sem.run_ite,hcond,Bool.false_eq_true,if_false,run_askRoom,hs,Int.toNat_natCast]
 by_cases hn:c*s=0
 ·rw[if_pos hn]
  rw[hrow #[] (fun _=>rfl) (fun h=>absurd hn h)]
  rfl
 ·rw[if_neg hn,k1]
  simp only[Result.andThen_ok]
  rw[hrow Z.cells (fun h=>absurd h hn) (fun _=>rfl)]
  rfl
def OptRel (ι:Inj) (x:Option AV) (X:Option Value):Prop:=match x with|none=>X=none|some v=>∃V,X=some V∧conc ι v=some V
theorem boundK_ok {x:Option AV} {X:Option Value} {n:Nat} {k:Nat→R} (hx:OptRel ι x X) (h:boundK x n k=.ok):
  ∃i,k i=.ok∧((X=none∧i=n)∨∃j,X=some (.int j (i:Nat))):=by
 cases x with
 |none=>exact⟨n,h,.inl ⟨hx,rfl⟩⟩
 |some v=>
  obtain⟨V,rfl,h2⟩:=hx
  obtain⟨j,i,rfl,h3⟩:=asNatK_ok h
  rw[conc_int h2]
  exact⟨i,h3,.inr ⟨j,rfl⟩⟩
theorem sliceBound_run {j:IntKind} {i y:Nat} {c:BoundsCode} (h:i≤y):(Instr.sliceBound (.int j i) y c).run P w=.ok i w:=by
 have:0≤(i:Int)∧(i:Int)≤y:=by omega
 simp[Instr.sliceBound,asIntOf,this]
theorem sliceBounds_run {isSlice:Bool} {len cap h l:Nat} {lo hi:Option Value} (hh:(hi=none∧h=len)∨∃j,hi=some (.int j h)) (hl:(lo=none∧l=0)∨∃j,lo=some (.int j l)) (h1:l≤h) (h2:h≤cap):
  (Instr.sliceBounds isSlice len cap lo hi none).run P w=.ok (l,h,cap) w:=by
 unfold Instr.sliceBounds
 rcases hh with⟨rfl,rfl⟩|⟨j,rfl⟩<;>rcases hl with⟨rfl,rfl⟩|⟨k,rfl⟩<;>simp[sliceBound_run h1,sliceBound_run h2]
theorem blkOf {b:Nat} {x:Blk} {p:Pl} (hr:Rel P ι m w) (h:m.t.find b b=some x) (hp:ι b=some p):BlkRel P ι p x w:=by
 obtain⟨q,h1,h2⟩:=hr.blk b x h
 rw[hp] at h1;injection h1 with h1;subst h1
 exact h2
theorem growOk_ok (hg:GOk P g) (hr:Rel P ι m w) {s b:Nat} {k:R} {p:Pl} (hp:ι b=some p) (h:growOk g s m b k=.ok):k=.ok∧p.sz=s∧1≤s:=by
 obtain⟨x,h1,h2⟩:=T.getK_ok (h:m.t.getK b _=.ok)
 split at h2<;>first|(cases h2;done)|skip
 rename_i c e z
 obtain⟨s',h3,h4⟩:=optK_ok h2
 obtain⟨h5,h6⟩:=ifB_ok h4
 obtain⟨C,e',fz,L,_,_,_,k4,_⟩:=blkOf hr h1 hp
 have e1:p.sz=s:=by rw[(k4 rfl).1,hg.cellsOf h3,Nat.eq_of_beq_eq_true h5]
 exact⟨h6,e1,e1▸(k4 rfl).2⟩
variable {lo hi:Option AV} {LO HI:Option Value} (hlo:OptRel ι lo LO) (hhi:OptRel ι hi HI)
include hlo hhi
theorem sliceStr_ok (hg:GOk P g) (hr:Rel P ι m w) {s:List UInt8} {f:AV→Mem→R} (hd:g.desc t=.string) (h:sliceStr s lo hi m f=.ok):
  Out P ι m w f ((Instr.sliceAt t (.string ⟨s.toArray⟩) LO HI none).run P w):=by
 unfold sliceStr at h
 rw[lenK_eq] at h
 obtain⟨i,h1,h2⟩:=boundK_ok hhi h
 obtain⟨l,h3,h4⟩:=boundK_ok hlo h1
 obtain⟨h5,h6⟩:=ifB_ok h3
 obtain⟨h7,h8⟩:=ifB_ok h6
 obtain⟨h9,h10⟩:=dropK_ok h8
 rw[forceN_eq] at h10
 obtain⟨h11,h12⟩:=takeK_ok h10
 have hu:=hg.run_desc hd (by simp) w
 have hb:=sliceBounds_run (P:=P) (w:=w) (isSlice:=false) (len:=s.length) (cap:=s.length) (h:=i) (l:=l) (lo:=LO) (hi:=HI) h2 h4 (Nat.le_of_ble_eq_true h7) (Nat.le_of_ble_eq_true h5)
 refine OutP.out hr (.mk' h12 (V:=.string (ByteArray.extract ⟨s.toArray⟩ l i)) ?_ ?_)
 ·simp only[conc,Option.some.injEq,Value.string.injEq]
  apply ByteArray.ext
  have:l≤i:=Nat.le_of_ble_eq_true h7
  simp[ByteArray.extract,ByteArray.copySlice]
 ·simp only[Instr.sliceAt,Sem.run_bind,hu,Result.andThen_ok,Instr.slice,Option.isSome_none,Bool.false_eq_true,if_false,str_size]
  simp[hb]
theorem sliceSl_ok (hg:GOk P g) (hr:Rel P ι m w) {e:TypeId} {s b o n:Nat} {cap:Option Nat} {f:AV→Mem→R} (hd:g.desc t=.slice e) (hs:g.size e=some s) (ha:conc ι (.sl b o n cap)=some A)
  (h:sliceSl g s b o n cap lo hi m f=.ok):Out P ι m w f ((Instr.sliceAt t A LO HI none).run P w):=by
 unfold sliceSl at h
 obtain⟨i,h1,h2⟩:=boundK_ok hhi h
 obtain⟨l,h3,h4⟩:=boundK_ok hlo h1
 obtain⟨h5,h6⟩:=ifB_ok h3
 rw[forceN_eq] at h6
 simp only[Nat.sub_eq,Nat.add_eq,Nat.mul_eq] at h6
 have hli:=Nat.le_of_ble_eq_true h5
 obtain⟨p,hp,rfl,hcp⟩:=conc_sl' ha
 have hu:=hg.run_desc hd (by simp) w
 have hsz:=hg.run_size hs w
 have run:∀cp,i≤cp→(Instr.sliceAt t (.slice (some ⟨p.blk,p.delta+o,none⟩) n cp) LO HI none).run P w=
   .ok (.slice (if cp=l then some ⟨p.blk,p.delta+o,none⟩ else some ⟨p.blk,p.delta+(o+l*s),none⟩) (i - l) (cp - l)) w:=fun cp hcp=>by
  have hb:=sliceBounds_run (P:=P) (w:=w) (isSlice:=true) (len:=n) (cap:=cp) (h:=i) (l:=l) (lo:=LO) (hi:=HI) h2 h4 hli hcp
  simp only[Instr.sliceAt,Sem.run_bind,hu,Result.andThen_ok,Instr.slice,hb,hsz,Sem.run_pure,Option.map_some,add_plain,Nat.add_assoc]
 cases cap with
 |some c=>
  obtain⟨h7,h8⟩:=ifB_ok h6
  have hic:=Nat.le_of_ble_eq_true h7
  rw[iteB_eq] at h8
  simp only[capOf]
  split at h8<;>rename_i hcl
  ·have hcl:=Nat.eq_of_beq_eq_true hcl
   refine OutP.out hr (.mk' h8 (by simp[conc,hp];rfl) ?_)
   rw[run c hic,if_pos hcl,hcl,Nat.sub_self]
  ·have hcl:c≠l:=fun e=>hcl (by simp[e])
   rw[forceN_eq,forceN_eq] at h8
   refine OutP.out hr (.mk' h8 (by simp[conc,hp];rfl) ?_)
   rw[run c hic,if_neg hcl]
 |none=>
  obtain⟨h7,h8⟩:=ifB_ok h6
  have hin:=Nat.le_of_ble_eq_true h7
  have hcp:=hcp rfl
  simp only[capOf]
  have hic:i≤p.ncap - o / p.sz:=by omega
  have hrun:=run _ hic
  rw[iteB_eq] at h8
  split at h8<;>rename_i hl0
  ·have hl0:l=0:=Nat.eq_of_beq_eq_true hl0
   subst hl0
   refine OutP.out hr (.mk' h8 (conc_sl_none hp (by omega)) ?_)
   rw[hrun]
   simp only[Nat.sub_zero,Nat.zero_mul,Nat.add_zero,ite_self]
  ·have hl0:l≠0:=fun e=>hl0 (by simp[e])
   rw[iteB_eq] at h8
   split at h8<;>rename_i hd0
   ·
    have hd0:i - l=0:=Nat.eq_of_beq_eq_true hd0
    rw[forceN_eq] at h8
    have hil:i=l:=by omega
    refine OutP.out hr (.mk' h8 (by simp only[conc,hp,Option.map_some];rfl) ?_)
    rw[hrun,hd0]
    by_cases hcl:p.ncap - o / p.sz=l
    ·rw[if_pos hcl,if_pos hcl]
    ·rw[if_neg hcl,if_neg hcl]
   ·have hd0:i - l≠0:=fun e=>hd0 (by rw[e];rfl)
    obtain⟨h9,h10,hsp⟩:=growOk_ok hg hr hp h8
    rw[forceN_eq] at h9
    have hdiv:(o+l*s) / p.sz=o / p.sz+l:=by rw[h10,Nat.add_mul_div_right _ _ hsp]
    refine OutP.out hr (.mk' h9 (conc_sl_none hp (by rw[hdiv];omega)) ?_)
    rw[hrun,if_neg (by omega),hdiv]
    congr 2
    omega
end
end Go.AM
end
