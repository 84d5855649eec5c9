/- The judge's reader of a claim's fields, at every kind; Few. -/
import Derived.Test.YtmabhhngoklncaaGreatDoorI
import Derived.Deep.WholeRow
import Derived.Laws.CopyOwn
import Derived.Handy
set_option maxRecDepth 100000
set_option maxHeartbeats 40000000
set_option linter.all false
open Go.Lib renaming hid->rA
open Nat renaming le_refl->rB,le_trans->rO,zero_le->rQ
open List renaming getElem?_cons_zero->rC,getElem?_cons_succ->rD,getElem?_toArray->rF,getElem_mem->rP
open Go.Proofs.Tryz renaming prog->rE
open Go.World renaming cell?_of_block->rG,cell?->rR
open Go renaming heap_alloc_old->rH,heap_alloc_new->rI,bodyPost_ret->rL,heap_setCell_other->rN
open Go.Result renaming andThen->rJ
open Go.Sem renaming run_pure->rK,run_bind->rM
open Go.Value renaming int->jI,slice->jS,pointer->jP,bool->jB,agg->jG,tuple->jU
open Go.IntKind renaming i64->kQ
open Go.Ending renaming returned->jR
open Go Go.RowKit
namespace Go.Proofs.YtmabhhngoklncaaGreatDoor
variable {L:List Int}{w W:World}{s:Int}{a:Option Addr}{c q i C k:Nat}{nv:Value}{fl:Bool}{ops:Array Oper}{rest:List Oper}{o:Oper}{Q:Exit->Act->World->Prop}{ys:Array Value}
theorem zNd {k:Int} (hL:Good L) (h:ClS nv L q C w w (zK k) (fun _=>True) i fl):Calls rE 20 #[jP (some ⟨q,0,none⟩),jP (some ⟨C,0,none⟩)] w (NxC nv L q C w):=by
 by_cases h1:k=1
 ·subst h1;exact zKI hL h
 ·by_cases h2:k=2
  ·subst h2;exact zLN hL h
  ·by_cases h3:k=3
   ·subst h3;exact zJW hL h
   ·by_cases h4:k=4
    ·subst h4;exact zLL hL h
    ·exact zI7 ⟨h1,h2,h3,h4⟩ h
theorem zTa {n:Nat} (w:World) (hn:n<=9223372036854775807):Calls rE 5 #[jG #[jS a n c,jI kQ s]] w (fun e w'=>e=jR (jB (decide (n<=2500)))/\Below w.heap.size w w'):=by
 have HB:Hid (Below w.heap.size w (w.alloc (.cells #[jS a n c,jI kQ s] 24))):=rA ((Below.refl _ _).alloc (rB _) _);have d0:=zI w #[jS a n c,jI kQ s] 24 0;simp only[rF,rD,rC] at d0;have e1:decide ((n:Int)<=2500)=decide (n<=2500):=by
  by_cases h:n<=2500
  ·rw[decide_eq_true h,decide_eq_true (by omega)]
  ·rw[decide_eq_false h,decide_eq_false (by omega)]
 have HE:=rA e1;clear e1;go_enter Tryz.func5,Tryz.ntmps5;go_wp2_with fail;go_ret
 first
  |exact⟨rfl,HB.out⟩
  |exact⟨by rw[<-HE.out];rfl,HB.out⟩
namespace Sl
def pw:Nat->Int
 |0=>1
 |k+1=>pw k*3 % 65521
def sealAt (xs:List Int):Nat->Int
 |0=>0
 |k+1=>(sealAt xs k+xs.getD k 0 % 65521*pw (k+1)) % 65521
def sl (xs:List Int):Int:=sealAt xs xs.length
def tot:List Int->Int
 |[]=>0
 |n::l=>3*(n+tot l)
theorem zMI:∀k:Nat,pw k=3 ^ k % 65521
 |0=>rfl
 |k+1=>by
  rw[pw,zMI k,Int.pow_succ];generalize (3:Int) ^ k=q;omega
theorem pw_bd (k:Nat):0<=pw k/\pw k<65521:=by rw[zMI];omega
theorem sealAt_bd (xs:List Int) (k:Nat):0<=sealAt xs k/\sealAt xs k<65521:=by
 cases k with
 |zero=>simp[sealAt]
 |succ k=>rw[sealAt];omega
theorem zAx:∀a b:List Int,tot (a++b)=tot a+3 ^ a.length*tot b
 |[],b=>by simp[tot]
 |n::a,b=>by
  simp only[List.cons_append,tot,zAx a b,List.length_cons,Int.pow_succ];rw[Int.mul_add,Int.mul_add,Int.mul_add,Int.add_assoc];congr 2;rw[<-Int.mul_assoc,Int.mul_comm 3]
theorem zHX (xs:List Int):∀k:Nat,k<=xs.length->sealAt xs k=tot (xs.take k) % 65521
 |0,_=>by simp[sealAt,tot]
 |k+1,h=>by
  have hk:k<xs.length:=by omega
  rw[sealAt,zHX xs k (by omega),List.take_succ_eq_append_getElem hk,zAx,zMI,List.getD_eq_getElem?_getD,List.getElem?_eq_getElem hk];simp only[Option.getD_some,tot,List.length_take,Int.add_zero];rw[Nat.min_eq_left (by omega),Int.emod_add_emod,Int.add_emod,<-Int.mul_emod,<-Int.add_emod,Int.pow_succ,Int.mul_comm xs[k],Int.mul_assoc]
theorem zGA (xs:List Int):sl xs=tot xs % 65521:=by rw[sl,zHX xs _ (rB _),List.take_length]
theorem zDo:∀(k:Nat) (a:Int),(3 ^ k*a) % 65521=0->a % 65521=0
 |0,a,h=>by simpa using h
 |k+1,a,h=>by
  rw[Int.pow_succ,Int.mul_assoc] at h;have:=zDo k (3*a) h;omega
theorem sl_set (x:List Int) (i:Nat) (v:Int) (hi:i<x.length) (h0:∀n∈x,0<=n/\n<65520) (hv:0<=v/\v<65520):sl (x.set i v)=sl x↔v=x[i]:=by
 have hx:x=x.take i++x[i]::x.drop (i+1):=by rw[List.getElem_cons_drop,List.take_append_drop]
 have hs:x.set i v=x.take i++v::x.drop (i+1):=by rw[List.set_eq_take_append_cons_drop,if_pos hi]
 have e1:tot x=tot (x.take i)+3 ^ (x.take i).length*(3*(x[i]+tot (x.drop (i+1)))):=by
  conv=>lhs;rw[hx]
  rw[zAx];rfl
 have e2:tot (x.set i v)=tot (x.take i)+3 ^ (x.take i).length*(3*(v+tot (x.drop (i+1)))):=by
  rw[hs,zAx];rfl
 have hb:=h0 x[i] (rP hi);constructor
 ·intro h
  rw[zGA,zGA,Int.emod_eq_emod_iff_emod_sub_eq_zero,e1,e2] at h;have e3:tot (x.take i)+3 ^ (x.take i).length*(3*(v+tot (x.drop (i+1)))) - (tot (x.take i)+3 ^ (x.take i).length*(3*(x[i]+tot (x.drop (i+1)))))=3 ^ (x.take i).length*(3*(v - x[i])):=by
   rw[Int.add_sub_add_left,<-Int.mul_sub,<-Int.mul_sub];congr 2;omega
  rw[e3] at h;have:=zDo _ _ h;omega
 ·intro h
  rw[zGA,zGA,e1,e2,h]
end Sl
def zBx (L:List Int):Bool:=L.all fun x=>decide (0<=x/\x<=65519)
def yQ (L:List Int) (s:Int):Bool:=zBx L&&decide (s=Sl.sl L)
theorem zIV (h:∀x∈L.take k,0<=x/\x<=65519) (hk:k<L.length) (hx:0<=L[k]/\L[k]<=65519):∀x∈L.take (k+1),0<=x/\x<=65519:=fun x hm=>by
 rw[List.take_succ_eq_append_getElem hk] at hm;rcases List.mem_append.1 hm with hm|hm
 ·exact h x hm
 ·simp only[List.mem_singleton] at hm
  subst hm;exact hx
theorem zL5 (hk:k<L.length) (hx:¬(0<=L[k]/\L[k]<=65519)):yQ L s=false:=by
 have:zBx L=false:=by
  cases h:zBx L with
  |false=>rfl
  |true=>
   have:=List.all_eq_true.1 h L[k] (rP hk);exact absurd (by simpa using this) hx
 simp[yQ,this]
theorem zLF (h:∀x∈L,0<=x/\x<=65519):yQ L s=decide (s=Sl.sl L):=by
 have:zBx L=true:=List.all_eq_true.2 fun x hx=>by simpa using h x hx
 simp[yQ,this]
def Sld (w:World) (b:Bool) (e:Ending) (w':World):Prop:=e=jR (jB b)/\Below w.heap.size w w'
theorem zGU (h:Nums w (jS a L.length c) L) (hl:L.length<=9223372036854775807):Calls rE 18 #[jG #[jS a L.length c,jI kQ s]] w (Sld w (yQ L s)):=by
 have h1:=h.keep ((Below.refl _ _).alloc (rB _) (.cells #[jS a L.length c,jI kQ s] 24));have HB:Hid (Below w.heap.size w (w.alloc (.cells #[jS a L.length c,jI kQ s] 24))):=rA ((Below.refl _ _).alloc (rB _) _);have d0:=zI w #[jS a L.length c,jI kQ s] 24 0;have d1:=zI w #[jS a L.length c,jI kQ s] 24 1;simp only[rF,rD,rC] at d0 d1;obtain⟨a',c',e,h1⟩:=h1;simp only[Value.slice.injEq,true_and] at e;obtain⟨rfl,rfl⟩:=e;have HN:=rA h1;clear h h1;go_enter Tryz.func18,Tryz.ntmps18;go_upto_region 1 with fail;generalize w.alloc (.cells #[jS a L.length c,jI kQ s] 24)=w1 at*;go_wp2_with fail;go_loopw [3,4,6,10] (fun t p _ i wr=>∃k:Nat,k<=L.length/\i=jI kQ k/\t=jI kQ (Sl.sealAt L k)/\p=jI kQ (Sl.pw k)/\wr=w1/\Hid (∀x∈L.take k,0<=x/\x<=65519)) (fun _ _ _ i _=>L.length - (intOf i).toNat)
 case atStart=>exact⟨0,rQ _,rfl,rfl,rfl,rfl,rA fun x hx=>by simp at hx⟩
 case round=>
  obtain⟨k,hk,rfl,rfl,rfl,rfl,HT⟩:=hrel;by_cases hlt:k<L.length
  ·obtain⟨b1,o1,rfl,hb1,hc1⟩:=HN.out (fun e=>by rw[e] at hlt;simp at hlt)
   have ck:=hc1 k hlt;have eA:L.getD k 0=L[k]:=by simp[hlt]
   rw[eA] at ck;have hd:=dT hlt
   have HBAD:Hid (¬(0<=L[k]/\L[k]<=65519)->yQ L s=false):=rA fun hx=>zL5 hlt hx
   have HNXT:Hid (0<=L[k]/\L[k]<=65519->(∀x∈L.take (k+1),0<=x/\x<=65519)/\Sl.sealAt L (k+1)=(Sl.sealAt L k+L[k]*(Sl.pw k*3 % 65521)) % 65521):=rA fun hx=>⟨zIV HT.out hlt hx,by
    show(Sl.sealAt L k+L.getD k 0 % 65521*(Sl.pw k*3 % 65521)) % 65521=_;rw[eA,show L[k] % 65521=L[k] by omega]⟩
   have hp:=Sl.pw_bd k;have hs:=Sl.sealAt_bd L k;have hp':=Sl.pw_bd (k+1);rw[show Sl.pw (k+1)=Sl.pw k*3 % 65521 from rfl] at hp';clear hc1 eA;generalize L[k]=x at*;by_cases h0:x<0
   ·have hd0:=dT h0
    have HF:=rA (HBAD.out (by omega));go_wp2_with fail;go_ret;exact⟨by rw[HF.out];rfl,HB.out⟩
   ·have hd0:=dF h0
    by_cases h6:65519<x
    ·have hd6:decide ((65519:Int)<x)=true:=by simpa using h6
     have HF:=rA (HBAD.out (by omega));go_wp2_with fail;go_ret;exact⟨by rw[HF.out];rfl,HB.out⟩
    ·have hd6:decide ((65519:Int)<x)=false:=by simpa using h6
     obtain⟨n1,n2⟩:=HNXT.out (by omega);have N1:=rA n1;have N2:=rA n2;have hm0:0<=x*(Sl.pw k*3 % 65521):=Int.mul_nonneg (by omega) hp'.1;have hm1:x*(Sl.pw k*3 % 65521)<=65521*65521:=Int.mul_le_mul (by omega) (by omega) hp'.1 (by omega);obtain⟨p0,p1⟩:=hp;obtain⟨s0,s1⟩:=hs;obtain⟨q0,q1⟩:=hp';clear n1 n2 HBAD HNXT;go_wp2_with fail;go_roundw
     case rel=>exact⟨k+1,by omega,by go_num,by rw[N2.out],rfl,trivial,N1⟩
     case measure=>simp[intOf];omega
  ·obtain rfl:k=L.length:=by omega
   have hd:decide (L.length<L.length)=false:=by simp
   have HALL:Hid (yQ L s=decide (s=Sl.sl L)):=rA (zLF (by have:=HT.out;rwa[List.take_length] at this));have HSL:Hid (Sl.sealAt L L.length=Sl.sl L):=rA rfl;go_wp2_with fail;go_ret;refine⟨?_,HB.out⟩;rw[HALL.out,<-HSL.out];rfl
theorem zIh: (Tryz.prog.info? 43).map (·.size)=some 24:=by kernel_rfl
theorem xP {a:Act} (hg:o.guard=none) (p q:Operand) (hop:o.op=Op.store 43 p q) (xs ys:Array Value) (n:Nat)
  (hp:a.eval p=jP (some ⟨n,0,none⟩)) (hn:w.heap[n]? =some (.cells xs 43 (0,0))) (hq:a.eval q=jG ys) (h1:ys.all (·.oneCell')=true) (hxs:xs.size=24) (hys:ys.size=24)
  (hK:wpList rE ops Q rest (a.put o.dst undef) (w.setRow n ys)):wpList rE ops Q (o::rest) a w:=by
 have hrun:(Instr.storeAt 43 (jP (some ⟨n,0,none⟩)) (jG ys)).run rE w=.ok () (w.setRow n ys):=by
  simp only[Instr.storeAt,Instr.sureAddr,rM,rK,rJ];exact run_storeVar_row w n 43 43 xs ys hn (by rw[hys];exact zIh) (by rw[hxs,hys]) h1
 refine wpList_plain hg fun K' hK'=>?_
 unfold Oper.wp;simp only[execOp,hop,hp,hq,rM,rK,hrun,rJ];exact hK' _ _ hK
theorem zHP:∃fs,Tryz.prog.underlying 43=some (.struct fs):=⟨_,Tryz.underlying43⟩
theorem zIf (h:w.heap[q]? =some (.cells ys 43 (0,0))) (hys:ys.size=24):(Instr.loadAt 43 (jP (some ⟨q,0,none⟩))).run rE w=.ok (jG ys) w:=by
 obtain⟨fs,hu⟩:=zHP;simp only[Instr.loadAt,Instr.sureAddr,rM,rK,rJ];exact run_loadVar_row w q 43 43 ys (0,0) _ h hu rfl (by rw[hys];exact zIh)
theorem zGr {a:Act} (hg:o.guard=none) (p:Operand) (hop:o.op=Op.load 43 p) (ys:Array Value) (n:Nat)
  (hp:a.eval p=jP (some ⟨n,0,none⟩)) (h:w.heap[n]? =some (.cells ys 43 (0,0))) (hys:ys.size=24)
  (hK:wpList rE ops Q rest (a.put o.dst (jG ys)) w):wpList rE ops Q (o::rest) a w:=by
 have hrun:=zIf h hys;refine wpList_plain hg fun K' hK'=>?_
 unfold Oper.wp;simp only[execOp,hop,hp,rM,rK,hrun,rJ];exact hK' _ _ hK
def Dcd (L:List Int) (s:Int) (w:World) (e:Ending) (w':World):Prop:=Below w.heap.size w w'/\∃(x:Cv) (c:Cl) (k:Int),e=jR (jU #[jG (x.cells c),jI kQ k])/\(yQ L s=false->k=340/\c.kind=0)/\(yQ L s=true->k=341∨k=0)/\(k=0->ClV w' x c/\c.args.nodes<=400)
theorem zNt {tmps:Array Value}{g:Nat}{u:Value} (hp:tmps.getD 2 undef=jP (some ⟨g,0,none⟩)) (hu:tmps.getD 3 undef=u) (h:W.heap[g]? =some (.cells ys 43 (0,0))) (hys:ys.size=24):
  (results Tryz.f7 tmps).run rE W=.ok (jU #[jG ys,u]) W:=by
 obtain⟨fs,hf⟩:=zHP;rw[results_cell_tmp rfl,hp,hu];have:=run_loadVar_row (P:=rE) W g 43 43 ys (0,0) _ h hf rfl (by rw[hys];exact zIh);simp[asAddr,rK,rJ,this]
theorem zDW (k:Int):(⟨none,0,none,0,none,0,none,0,none,0,none,0,none,0,none,0,none,0,none,0,none,0,none,0,none,0⟩:Cv).cells ⟨k,[],0,⟨#[]⟩,0,0,.nil,⟨0,0,0,[],[]⟩,⟨0,0,0,[],[]⟩,[],⟨[],[],[],[]⟩,[],.nil⟩=zK k:=rfl
theorem zEO: (zK 0).all (·.oneCell')=true:=by simp[zK,Value.oneCell']
theorem zLZ (h:Nums w (jS a L.length c) L) (hl:L.length<=9223372036854775807) (hs:yQ L s=false):Calls rE 7 #[jG #[jS a L.length c,jI kQ s]] w (Dcd L s w):=by
 have d0:=zI w #[jS a L.length c,jI kQ s] 24 0;have d1:=zI w #[jS a L.length c,jI kQ s] 24 1;simp only[rF,rD,rC] at d0 d1;have HN:=rA h;have HS:=rA hs;clear h hs;go_enter Tryz.func7,Tryz.ntmps7;go_upto_region 1 with fail;have hW:Hid (∀W:World,W=(w.alloc (.cells #[jS a L.length c,jI kQ s] 24)).alloc (.cells (zK 0) 43)->Below w.heap.size w W/\W.heap[w.heap.size+1]? =some (.cells (zK 0) 43 (0,0))/\W.cell? ⟨w.heap.size,0,none⟩=some (jS a L.length c)/\W.cell? ⟨w.heap.size,1,none⟩=some (jI kQ s)):=rA fun W e=>by
  subst e;have s1:(w.alloc (.cells #[jS a L.length c,jI kQ s] 24)).heap.size=w.heap.size+1:=by simp
  refine⟨((Below.refl _ _).alloc (rB _) _).alloc (by simp) _,?_,?_,?_⟩
  ·rw[<-s1,rI]
  ·exact(rG (rH _ _ (by simp))).trans d0
  ·exact(rG (rH _ _ (by simp))).trans d1
 obtain⟨hB,hz,k0,k1⟩:=hW.out _ rfl;unfold zK at hB hz k0 k1;clear hW d0 d1;generalize (w.alloc (.cells #[jS a L.length c,jI kQ s] 24)).alloc _=W0 at*;have HC:=rA (zGU (s:=s) (HN.out.keep hB) hl);have HB:=rA hB;have HZ:=rA hz;clear hB hz;go_wp2_with fail;refine HC.out.mono ?_;rintro e w5 ⟨rfl,hB5⟩;rw[HS.out];have hz5:=(hB5.block _ (Array.getElem?_eq_some_iff.1 HZ.out).1).trans HZ.out;have HZ5:=rA hz5;have HB5:=rA (HB.out.trans (hB5.mono HB.out.size));have HE:=rA (setRow_heap w5 (w.heap.size+1) _ (zK 0) 43 (0,0) hz5);have HBE:=rA (below_setRow HB5.out (g:=w.heap.size+1) (by omega) (zK 0));clear hB5 hz5 k0 k1;go_wp2_with (first|(refine xP rfl (.tmp 2) (.tmp 9) rfl _ (zK 0) (w.heap.size+1) rfl HZ5.out rfl zEO rfl rfl ?_));refine rL (zNt rfl rfl HE.out rfl) rfl ?_;exact⟨HBE.out,_,_,_,by rw[zDW];rfl,fun _=>⟨rfl,rfl⟩,fun h=>by(rw[HS.out] at h;cases h),fun h=>by cases h⟩
theorem zID (h:yQ L s=true):∀x∈L,0<=x/\x<=65519:=by
 have h1:zBx L=true:=by
  cases h2:zBx L with
  |true=>rfl
  |false=>simp[yQ,h2] at h
 intro x hx
 simpa using List.all_eq_true.1 h1 x hx
theorem Sub.of_below {B:Nat}{w':World}{p:Nat->Bool} (hB:Below B w w') (hs:w.heap.size<=B) (hp:∀k,k<w.heap.size->p k=false):Sub w (dim p w'):=
 ⟨by rw[zW];exact hB.size,fun k cs T f e=>by
  have hk:=(Array.getElem?_eq_some_iff.1 e).1;rw[zBr (hp k hk),hB.block k (by omega)];exact e⟩
theorem zEZ (x:Cv) (c:Cl):(x.cells c).all (·.oneCell')=true:=by simp[Cv.cells,Value.oneCell']
theorem zJr (h:Nums w (jS a L.length c) L) (hl:L.length<=9223372036854775807) (hs:yQ L s=true) (h2:20000<L.length):Calls rE 7 #[jG #[jS a L.length c,jI kQ s]] w (Dcd L s w):=by
 have d0:=zI w #[jS a L.length c,jI kQ s] 24 0;have d1:=zI w #[jS a L.length c,jI kQ s] 24 1;simp only[rF,rD,rC] at d0 d1;have hd:decide ((L.length:Int)>20000)=true:=by simpa using(by omega:(L.length:Int)>20000)
 have hd':decide ((20000:Int)<(L.length:Int))=true:=by simpa using(by omega:(L.length:Int)>20000)
 have HN:=rA h;have HS:=rA hs;clear h hs;go_enter Tryz.func7,Tryz.ntmps7;go_upto_region 1 with fail;have hW:Hid (∀W:World,W=(w.alloc (.cells #[jS a L.length c,jI kQ s] 24)).alloc (.cells (zK 0) 43)->Below w.heap.size w W/\W.heap[w.heap.size+1]? =some (.cells (zK 0) 43 (0,0))/\W.cell? ⟨w.heap.size,0,none⟩=some (jS a L.length c)/\W.cell? ⟨w.heap.size,1,none⟩=some (jI kQ s)/\W.heap.size=w.heap.size+2):=rA fun W e=>by
  subst e;have s1:(w.alloc (.cells #[jS a L.length c,jI kQ s] 24)).heap.size=w.heap.size+1:=by simp
  refine⟨((Below.refl _ _).alloc (rB _) _).alloc (by simp) _,?_,?_,?_,by simp⟩
  ·rw[<-s1,rI]
  ·exact(rG (rH _ _ (by simp))).trans d0
  ·exact(rG (rH _ _ (by simp))).trans d1
 obtain⟨hB,hz,k0,k1,hsz⟩:=hW.out _ rfl;unfold zK at hB hz k0 k1 hsz;clear hW d0 d1;generalize (w.alloc (.cells #[jS a L.length c,jI kQ s] 24)).alloc _=W0 at*;have HC:=rA (zGU (s:=s) (HN.out.keep hB) hl);have HB:=rA hB;have HZ:=rA hz;have HSZ:=rA hsz;clear hB hz hsz;go_wp2_with fail;refine HC.out.mono ?_;rintro e w5 ⟨rfl,hB5⟩;rw[HS.out];have hz5:=(hB5.block _ (Array.getElem?_eq_some_iff.1 HZ.out).1).trans HZ.out;have HZ5:=rA hz5;have HB5:=rA (HB.out.trans (hB5.mono HB.out.size));have HE:=rA (setRow_heap w5 (w.heap.size+1) _ (zK 0) 43 (0,0) hz5);have HBE:=rA (below_setRow HB5.out (g:=w.heap.size+1) (by omega) (zK 0));have q0:=(hB5.cell (p:=⟨w.heap.size,0,none⟩) (by show w.heap.size<_;rw[HSZ.out];omega)).trans k0;clear hB5 hz5 k0 k1;go_wp2_with (first|(refine xP rfl (.tmp 2) (.tmp 14) rfl _ (zK 0) (w.heap.size+1) rfl HZ5.out rfl zEO rfl rfl ?_));refine rL (zNt rfl rfl HE.out rfl) rfl ?_;exact⟨HBE.out,_,_,_,by rw[zDW];rfl,fun h=>by(rw[HS.out] at h;cases h),fun _=>.inl rfl,fun h=>by cases h⟩
theorem zP8 {a b:Nat}{U:World}:Sub (dim (two a b) U) (dim (only a) U):=zE (rB _) fun k _ hp=>⟨by simp[only];exact(yP.1 hp).1,rfl⟩
theorem zSC {nv:Value} {a:Option Addr} {c:Nat} {L:List Int} {w w5:World} (h:Nums w (jS a L.length c) L) (hcap:L.length<=c) (hB:Below w.heap.size w w5) (W:World) (e:W=(w5.alloc (.cells #[jS a L.length c,jI kQ 0,jB false] 64)).alloc (.cells (zK 0) 43)):
  Rd (jS a L.length c) L w5.heap.size W 0 false/\W.heap[w5.heap.size+1]? =some (.cells (zK 0) 43 (0,0))/\Below w5.heap.size w5 W/\W.heap.size=w5.heap.size+2/\Nums (dim (two w5.heap.size (w5.heap.size+1)) W) (jS a L.length c) L:=by
 subst e;have s1:(w5.alloc (.cells #[jS a L.length c,jI kQ 0,jB false] 64)).heap.size=w5.heap.size+1:=by simp
 have b1:Below w5.heap.size w5 ((w5.alloc (.cells #[jS a L.length c,jI kQ 0,jB false] 64)).alloc (.cells (zK 0) 43)):=((Below.refl _ _).alloc (rB _) _).alloc (by simp) _;have n1:Nums (dim (two w5.heap.size (w5.heap.size+1)) ((w5.alloc (.cells #[jS a L.length c,jI kQ 0,jB false] 64)).alloc (.cells (zK 0) 43))) (jS a L.length c) L:=(h.keep hB).on (Sub.of_below b1 (rB _) fun k hk=>yP.2 (by omega));refine⟨⟨?_,n1.on zP8,rQ _,a,c,rfl,hcap⟩,?_,b1,by simp,n1⟩
 ·rw[rH _ _ (by simp),rI];rfl
 ·rw[<-s1,rI]
theorem zMp {W6 w7:World}{x:Int} (hn:Nums (dim (two q (q+1)) W6) nv L) (hq:q+2<=W6.heap.size) (hz:W6.heap[q+1]? =some (.cells (zK 0) 43 (0,0))) (hR:Rd nv L q w7 i fl) (hF:Fr (only q) W6.heap.size W6 w7):
  ClS nv L q (q+1) (w7.setCell ⟨q+1,0,none⟩ (jI kQ x)) (w7.setCell ⟨q+1,0,none⟩ (jI kQ x)) (zK x) (fun _=>True) i fl:=by
 have hz7:=(hF.block (q+1) (by omega) (by simp[only])).trans hz;have hs:=hF.size;refine⟨?_,?_,hn.on (zE (by simpa using hs) fun k hk hp=>⟨hp,?_⟩),hR.le,hR.cap,Fr.refl _ _ _,?_,trivial,fun _ _ _ h=>h⟩
 ·rw[heap_setCell_same w7 (q+1) 0 _ 43 _ hz7];rfl
 ·rw[rN _ _ _ _ (by simp)];exact hR.blk
 ·obtain⟨e1,e2⟩:=yP.1 hp
  rw[rN _ _ _ _ (by simp;omega),hF.block k hk (by simp[only];omega)]
 ·simp;omega
theorem zOa {x:Cv}{c:Cl} (h:ClS nv L q C w W (x.cells c) (fun U=>ClV U x c) i fl){r:Nat} (hr:r<w.heap.size) (v:Array Value) (n:Nat):ClV ((W.drewN n).setRow r v) x c:=by
 refine h.els.on ⟨?_,fun k cs T f hk=>?_⟩
 ·rw[zW];exact Nat.le_of_eq (by simp[World.setRow])
 ·obtain⟨h1,h2⟩:=zCm hk
  have h3:w.heap.size<=k:=by simpa[neu] using h1
  rw[setRow_other _ _ _ _ (by omega)];exact h2
theorem zJo (h:Nums w (jS a L.length c) L) (hcap:L.length<=c) (hs:yQ L s=true) (h2:L.length<=20000):Calls rE 7 #[jG #[jS a L.length c,jI kQ s]] w (Dcd L s w):=by
 have d0:=zI w #[jS a L.length c,jI kQ s] 24 0;have d1:=zI w #[jS a L.length c,jI kQ s] 24 1;simp only[rF,rD,rC] at d0 d1;have hd':decide ((20000:Int)<(L.length:Int))=false:=by simpa using(by omega:¬(20000:Int)<(L.length:Int))
 have HL:Hid (Good L):=rA ⟨zID hs,h2⟩;have HN:=rA h;have HS:=rA hs;clear h hs;go_enter Tryz.func7,Tryz.ntmps7;go_upto_region 1 with fail;have hW:Hid (∀W:World,W=(w.alloc (.cells #[jS a L.length c,jI kQ s] 24)).alloc (.cells (zK 0) 43)->Below w.heap.size w W/\W.heap[w.heap.size+1]? =some (.cells (zK 0) 43 (0,0))/\W.cell? ⟨w.heap.size,0,none⟩=some (jS a L.length c)/\W.cell? ⟨w.heap.size,1,none⟩=some (jI kQ s)/\W.heap.size=w.heap.size+2):=rA fun W e=>by
  subst e;have s1:(w.alloc (.cells #[jS a L.length c,jI kQ s] 24)).heap.size=w.heap.size+1:=by simp
  refine⟨((Below.refl _ _).alloc (rB _) _).alloc (by simp) _,?_,?_,?_,by simp⟩
  ·rw[<-s1,rI]
  ·exact(rG (rH _ _ (by simp))).trans d0
  ·exact(rG (rH _ _ (by simp))).trans d1
 obtain⟨hB,hz,k0,k1,hsz⟩:=hW.out _ rfl;unfold zK at hB hz k0 k1 hsz;clear hW d0 d1;generalize (w.alloc (.cells #[jS a L.length c,jI kQ s] 24)).alloc _=W0 at*;have HC:=rA (zGU (s:=s) (HN.out.keep hB) (by omega));have HB:=rA hB;have HZ:=rA hz;have HSZ:=rA hsz;clear hB hz hsz;go_wp2_with fail;refine HC.out.mono ?_;rintro e w5 ⟨rfl,hB5⟩;rw[HS.out];have HZ5:=rA ((hB5.block _ (Array.getElem?_eq_some_iff.1 HZ.out).1).trans HZ.out);have HB5:=rA (HB.out.trans (hB5.mono HB.out.size));have q0:=(hB5.cell (p:=⟨w.heap.size,0,none⟩) (by show w.heap.size<_;rw[HSZ.out];omega)).trans k0;have HS5:Hid (w.heap.size+2<=w5.heap.size):=rA (by rw[<-HSZ.out];exact hB5.size);clear hB5 k0 k1;go_upto_region 7 with fail;have hW:=rA (@zSC (jS a L.length c) a c L w w5 HN.out hcap HB5.out);unfold zK at hW;obtain⟨hR6,hz6,hB6,hs6,hn6⟩:=hW.out _ rfl;clear hW q0;generalize (w5.alloc (.cells #[jS a L.length c,jI kQ 0,jB false] 64)).alloc _=W6 at*;have HR6:=rA hR6;have HZ6:=rA hz6;have HB6:=rA hB6;have HS6:=rA hs6;have HN6:=rA hn6;have HC:=rA (xG HL.out hR6);clear hR6 hz6 hB6 hs6 hn6;go_wp2_with fail;refine HC.out.mono ?_;rintro e w7 ⟨x,i',fl',rfl,hx0,hx1,hR7,hF7⟩;have hz7:=(hF7.block (w5.heap.size+1) (by rw[HS6.out];omega) (by simp[only])).trans HZ6.out;have z0:w7.cell? ⟨w5.heap.size+1,0,none⟩=some (jI kQ 0):=by simp[rR,hz7]
 have z1:w7.frozen? ⟨w5.heap.size+1,0,none⟩=false:=by simp[World.frozen?,hz7]
 have HCS:=rA (zMp (x:=x) HN6.out (by rw[HS6.out];exact rB _) HZ6.out hR7 hF7);have HF7:=rA hF7;clear HC hR7 hF7 hz7 hx0 hx1;go_upto_region 8 with fail;have HF8:Hid (Fr (two w5.heap.size (w5.heap.size+1)) w5.heap.size W6 (w7.setCell ⟨w5.heap.size+1,0,none⟩ (jI kQ x))):=rA ((HF7.out.wide.mono (by rw[HS6.out];omega)).setCell (.inl (by simp[two])) _);have HC:=rA (zNd HL.out HCS.out);have HS8:Hid (w5.heap.size<=(w7.setCell ⟨w5.heap.size+1,0,none⟩ (jI kQ x)).heap.size):=rA (by simpa using rO (rO (Nat.le_add_right _ _) (Nat.le_of_eq HS6.out.symm)) HF7.out.size);clear z0 z1;generalize w7.setCell ⟨w5.heap.size+1,0,none⟩ (jI kQ x)=w8 at*;go_wp2_with fail;refine HC.out.mono ?_;rintro e w9 ⟨x9,c9,i9,fl9,rfl,hS9,hn9⟩;have hF9:Fr (two w5.heap.size (w5.heap.size+1)) w5.heap.size w5 w9:=((Fr.of_below HB6.out).trans HF8.out).trans (hS9.fr.mono HS8.out);have hz9:w9.heap[w.heap.size+1]? =some (.cells (zK 0) 43 (0,0)):=(hF9.block _ (by have:=HS5.out;omega) (yP.2 (by have:=HS5.out;omega))).trans HZ5.out;have hB9:Below w.heap.size w w9:=by
  refine⟨hF9.os.trans HB5.out.os,hF9.tape.trans HB5.out.tape,hF9.output.trans HB5.out.output,rO HB5.out.size hF9.size,fun k hk=>?_⟩;have:=HS5.out;exact(hF9.block k (by omega) (yP.2 (by omega))).trans (HB5.out.block k hk)
 have HZ9:=rA hz9;have HB9:=rA hB9;have HS9:=rA hS9;obtain⟨b0,b1,b2,bf⟩:=hS9.rd.cells;have HLE:=rA hS9.le;have HLN:Hid (w.heap.size+1<w8.heap.size):=rA (by have:=HS5.out;have:=HS8.out;omega);have HCB:=rA hS9.cb;clear HC HCS hS9 hF9 hz9 hB9 bf HF8 HF7 HR6 HN6 HZ6;have hbad:∀n:Nat,Dcd L s w (jR (jU #[jG (zK 0),jI kQ 341])) ((w9.drewN n).setRow (w.heap.size+1) (zK 0)):=fun n=>⟨below_setRow (yM HB9.out n) (g:=w.heap.size+1) (by omega) (zK 0),_,_,_,by rw[<-zDW],fun h=>by(rw[HS.out] at h;cases h),fun _=>.inl rfl,fun h=>by cases h⟩
 have HBAD:=rA hbad;clear hbad;cases fl9 with
 |true=>
  go_wp2_with fail;go_quiet (fail);go_wp2_with (first|(refine xP rfl (.tmp 2) (.tmp 40) rfl _ (zK 0) (w.heap.size+1) rfl HZ9.out rfl zEO rfl rfl ?_));refine rL (zNt rfl rfl (setRow_heap _ _ _ (zK 0) 43 (0,0) HZ9.out) rfl) rfl ?_;exact HBAD.out _
 |false=>
  by_cases hi:i9<L.length
  ·have hd:decide ((i9:Int)<(L.length:Int))=true:=by simpa using hi
   have hd2:=dT hi
   go_wp2_with fail;go_quiet (fail);go_wp2_with (first|(refine xP rfl (.tmp 2) (.tmp 40) rfl _ (zK 0) (w.heap.size+1) rfl HZ9.out rfl zEO rfl rfl ?_));refine rL (zNt rfl rfl (setRow_heap _ _ _ (zK 0) 43 (0,0) HZ9.out) rfl) rfl ?_;exact HBAD.out _
  ·have hd:decide ((i9:Int)<(L.length:Int))=false:=by simpa using hi
   have hd2:=dF hi
   go_wp2_with fail;go_quiet (fail);go_wp2_with (first|(refine zGr rfl (.tmp 5) rfl _ (w5.heap.size+1) rfl HCB.out rfl ?_)|(refine xP rfl (.tmp 2) (.tmp 41) rfl _ _ (w.heap.size+1) rfl HZ9.out rfl (zEZ _ _) rfl rfl ?_));refine rL (zNt rfl rfl (setRow_heap _ _ _ (x9.cells c9) 43 (0,0) HZ9.out) rfl) rfl ?_;exact⟨below_setRow (yM HB9.out _) (g:=w.heap.size+1) (by omega) _,x9,c9,0,rfl,fun h=>by(rw[HS.out] at h;cases h),fun _=>.inr rfl,fun _=>⟨zOa HS9.out HLN.out _ _,hn9⟩⟩
theorem zMB (h:Nums w (jS a L.length c) L) (hl:L.length<=9223372036854775807) (hcap:L.length<=c):Calls rE 7 #[jG #[jS a L.length c,jI kQ s]] w (Dcd L s w):=by
 cases hs:yQ L s with
 |false=>exact zLZ h hl hs
 |true=>
  by_cases h2:20000<L.length
  ·exact zJr h hl hs h2
  ·exact zJo h hcap hs (by omega)
def q6 (f:Nat):Prop:=∀(w:World) (C:Nat) (x:Cv) (c:Cl),w.heap[C]? =some (.cells (x.cells c) 43 (0,0))->ClV w x c->c.args.nodes<=400->Calls rE f #[jG #[jP (some ⟨C,0,none⟩)]] w (zO1 w)
def Chk (L:List Int) (s:Int) (w:World) (e:Ending) (w':World):Prop:=Below w.heap.size w w'/\∃k:Int,e=jR (jI kQ k)/\(yQ L s=false->k=340)/\(yQ L s=true->k≠340)
theorem zRY (h1:q6 356) (h2:q6 427) (h3:q6 429) (h4:q6 434) (h:Nums w (jS a L.length c) L) (hl:L.length<=9223372036854775807) (hcap:L.length<=c):Calls rE 6 #[jG #[jS a L.length c,jI kQ s]] w (Chk L s w):=by
 have d0:=zI w #[jS a L.length c,jI kQ s] 24 0;have d1:=zI w #[jS a L.length c,jI kQ s] 24 1;simp only[rF,rD,rC] at d0 d1;have hB:Below w.heap.size w (w.alloc (.cells #[jS a L.length c,jI kQ s] 24)):=(Below.refl _ _).alloc (rB _) _;have HC:=rA (zMB (s:=s) (h.keep hB) hl hcap);have HB:=rA hB;have R1:=rA h1;have R2:=rA h2;have R3:=rA h3;have R4:=rA h4;clear hB h h1 h2 h3 h4;go_enter Tryz.func6,Tryz.ntmps6;go_upto_region 1 with fail;generalize w.alloc (.cells #[jS a L.length c,jI kQ s] 24)=w1 at*;go_wp2_with fail;refine HC.out.mono ?_;rintro e w2 ⟨hB2,x,cl,k,rfl,hk1,hk2,hk3⟩;have HA:Hid ((w2.alloc (.cells (zK 0) 43)).heap[w2.heap.size]? =some (.cells (zK 0) 43 (0,0))):=rA (rI _ _);have HBX:=rA (HB.out.trans (hB2.mono HB.out.size));unfold zK at HA;have HK:=rA (show(yQ L s=false->k=340)/\(yQ L s=true->k=341∨k=0) from⟨fun h=>(hk1 h).1,hk2⟩);have HV:=rA hk3;clear hB2 hk1 hk2 hk3 HC d0 d1;go_upto_region 2 with(first|(refine xP rfl (.tmp 3) (.tmp 9) rfl _ (x.cells cl) w2.heap.size rfl HA.out rfl (zEZ _ _) rfl rfl ?_));have HW:Hid (∀W:World,W=(w2.alloc (.cells (zK 0) 43)).setRow w2.heap.size (x.cells cl)->W.heap[w2.heap.size]? =some (.cells (x.cells cl) 43 (0,0))/\Below w2.heap.size w2 W/\W.heap.size=w2.heap.size+1):=rA fun W e=>by
  subst e;refine⟨setRow_heap _ _ _ _ 43 (0,0) (rI _ _),below_setRow ((Below.refl _ _).alloc (rB _) _) (rB _) _,by simp⟩
 unfold zK at HW;obtain⟨hz,hB3,hs3⟩:=HW.out _ rfl;clear HW HA;generalize (w2.alloc _).setRow w2.heap.size (x.cells cl)=w3 at*;have HZ:=rA hz;have HB3:=rA (HBX.out.trans (hB3.mono HBX.out.size));have HV3:Hid (k=0->ClV w3 x cl/\cl.args.nodes<=400):=rA fun h=>⟨(HV.out h).1.keep hB3,(HV.out h).2⟩
 clear hz hB3 HV hs3;by_cases hk:k=0
 ·subst hk
  have HCL:=rA (HV3.out rfl).1;have HCN:=rA (HV3.out rfl).2;have HOK:Hid (yQ L s=true):=rA (by
   cases e:yQ L s with
   |true=>rfl
   |false=>exact absurd (HK.out.1 e) (by decide))
  have HC:=rA (zB7 (w:=w3) (c:=w2.heap.size) (k:=cl.kind) (by simp[rR,HZ.out];rfl));have HE:Hid (∀W' k',Below w.heap.size w W'->k'≠340->Chk L s w (jR (jI kQ k')) W'):=rA fun W' k' hb hne=>⟨hb,k',rfl,fun h=>by(rw[HOK.out] at h;cases h),fun _=>hne⟩
  clear HV3 HK;go_wp2_with fail;refine HC.out.mono ?_;rintro e w4 ⟨rfl,rfl⟩;clear HC;by_cases k1:cl.kind=1
  ·rw[if_pos k1]
   have HR:=rA (R1.out _ _ x cl HZ.out HCL.out HCN.out);go_wp2_with fail;refine HR.out.mono ?_;rintro e w5 ⟨b,rfl,hb5⟩;have HB5:=rA (HB3.out.trans (hb5.mono HB3.out.size));clear hb5 HR;cases b with
   |true=>
    go_wp2_with fail;go_ret;exact HE.out _ _ HB5.out (by decide)
   |false=>
    go_wp2_with fail;go_ret;exact HE.out _ _ HB5.out (by decide)
  by_cases k2:cl.kind=2
  ·rw[if_neg k1,if_pos k2]
   have HR:=rA (R2.out _ _ x cl HZ.out HCL.out HCN.out);go_wp2_with fail;refine HR.out.mono ?_;rintro e w5 ⟨b,rfl,hb5⟩;have HB5:=rA (HB3.out.trans (hb5.mono HB3.out.size));clear hb5 HR;cases b with
   |true=>
    go_wp2_with fail;go_ret;exact HE.out _ _ HB5.out (by decide)
   |false=>
    go_wp2_with fail;go_ret;exact HE.out _ _ HB5.out (by decide)
  by_cases k3:cl.kind=3
  ·rw[if_neg k1,if_neg k2,if_pos k3]
   have HR:=rA (R3.out _ _ x cl HZ.out HCL.out HCN.out);go_wp2_with fail;refine HR.out.mono ?_;rintro e w5 ⟨b,rfl,hb5⟩;have HB5:=rA (HB3.out.trans (hb5.mono HB3.out.size));clear hb5 HR;cases b with
   |true=>
    go_wp2_with fail;go_ret;exact HE.out _ _ HB5.out (by decide)
   |false=>
    go_wp2_with fail;go_ret;exact HE.out _ _ HB5.out (by decide)
  by_cases k4:cl.kind=4
  ·rw[if_neg k1,if_neg k2,if_neg k3,if_pos k4]
   have HR:=rA (R4.out _ _ x cl HZ.out HCL.out HCN.out);go_wp2_with fail;refine HR.out.mono ?_;rintro e w5 ⟨b,rfl,hb5⟩;have HB5:=rA (HB3.out.trans (hb5.mono HB3.out.size));clear hb5 HR;cases b with
   |true=>
    go_wp2_with fail;go_ret;exact HE.out _ _ HB5.out (by decide)
   |false=>
    go_wp2_with fail;go_ret;exact HE.out _ _ HB5.out (by decide)
  rw[if_neg k1,if_neg k2,if_neg k3,if_neg k4];go_wp2_with fail;go_ret;exact HE.out _ _ HB3.out (by decide)
 ·have hd:(k==(0:Int))=false:=by simpa using hk
  go_wp2_with fail;go_ret;refine⟨HB3.out,k,rfl,HK.out.1,fun h=>?_⟩;rcases HK.out.2 h with rfl|rfl
  ·decide
  ·exact absurd rfl hk
