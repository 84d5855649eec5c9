/- The walk of signal.Valid: whether signals are well-formed. The table of forms; formula.formOf and shaped at every operator. The iterator over the weights of signals. -/
import Derived.Test.YtckdgniecdfedaaGreatDoorRzB
import Derived.Shelf.RegionOpen
import Derived.OwnWalkIn
import Derived.LoopNIn
import Derived.Sort.CutIn
namespace Go.Proofs.YtckdgniecdfedaaGreatDoor
section
open Go.RowKit
def otherB (l:List Sg) (nm:ByteArray) (k:Nat):Bool:=match l[k]? with
 |some t=>!(decide (t.name=nm))
 |none=>true
theorem otherB_at {l:List Sg} {nm:ByteArray} {k:Nat} (hk:k<l.length):otherB l nm k=!(decide (l[k].name=nm)):=by
 unfold otherB;rw[List.getElem?_eq_getElem hk]
def sigB (l:List Sg) (i:Nat):Bool:=match l[i]? with
 |some s=>nameB s.name&&decide (2≤s.size∧s.size≤4)&&(List.range i).all (otherB l s.name)
 |none=>false
theorem sigB_at {l:List Sg} {k:Nat} (hk:k<l.length):sigB l k=(nameB l[k].name&&decide (2≤l[k].size∧l[k].size≤4)&&(List.range k).all (otherB l l[k].name)):=by
 unfold sigB;rw[List.getElem?_eq_getElem hk]
def prodS:List Sg→Int
 |[]=>1
 |s::l=>s.size*prodS l
theorem prodS_append (l m:List Sg):prodS (l++m)=prodS l*prodS m:=by
 induction l with
 |nil=>simp[prodS]
 |cons s l ih=>simp[prodS,ih,Int.mul_assoc]
theorem prodS_take {l:List Sg} {k:Nat} (hk:k<l.length):prodS (l.take (k+1))=prodS (l.take k)*l[k].size:=by
 rw[List.take_succ_eq_append_getElem hk,prodS_append];simp[prodS]
def validB (l:List Sg):Bool:=decide (1≤l.length∧l.length≤6)&&(List.range l.length).all (sigB l)&&decide (prodS l≤64)
theorem validB_no {l:List Sg} (h:¬(1≤l.length∧l.length≤6)):validB l=false:=by unfold validB;rw[decide_eq_false h];rfl
theorem validB_bad {l:List Sg} {k:Nat} (hk:k<l.length) (h:sigB l k=false):validB l=false:=by
 unfold validB;rw[all_stop hk h];simp
theorem Keys.keep {w w':World} (h:Keys w) (hB:Below w.heap.size w w'):Keys w':=
 ⟨Nat.lt_of_lt_of_le h.1 hB.size,fun j hj=>(hB.cell (p:=⟨2,j,none⟩) h.1).trans (h.2 j hj)⟩
theorem prodS_small {l:List Sg}:∀(k:Nat),k≤l.length→(∀i,i<k→sigB l i=true)→1≤prodS (l.take k)∧prodS (l.take k)≤4 ^ k
 |0,_,_=>by simp[prodS]
 |k+1,hk,h=>by
  have ih:=prodS_small k (by omega) (fun i hi=>h i (by omega))
  have hs:=h k (by omega)
  have hk':k<l.length:=by omega
  unfold sigB at hs
  rw[List.getElem?_eq_getElem hk'] at hs
  simp only[Bool.and_eq_true,decide_eq_true_eq] at hs
  obtain⟨⟨-,h2,h4⟩, -⟩:=hs
  rw[prodS_take hk']
  constructor
  ·have:=Int.mul_le_mul ih.1 (show(1:Int)≤l[k].size by omega) (by omega) (by omega)
   simpa using this
  ·have:=Int.mul_le_mul ih.2 h4 (by omega) (by omega)
   rw[Int.pow_succ]
   exact this
set_option maxRecDepth 100000 in
set_option maxHeartbeats 4000000 in
theorem valid124 {w:World} {v:Value} {l:List Sg} (hv:SgV w v l) (hK:Keys w):
  Calls Tryz.prog 124 #[v] w fun e w'=>e=.returned (.bool (validB l))∧Below w.heap.size w w':=by
 obtain⟨a,c,rfl,hl,hv⟩:=hv
 have HV:=Lib.hid hv
 have HK:=Lib.hid hK
 clear hv hK
 by_cases h1:(l.length:Int)<1
 ·have HN:=Lib.hid (validB_no (l:=l) (by omega))
  have hd1:decide ((l.length:Int)<1)=true:=by simpa using h1
  go_enter Tryz.func124,Tryz.ntmps124
  go_wp2_with fail
  go_step3
  go_wp2_with fail
  try rw[Exit.noGoto_ret]
  go_ret
  exact⟨congrArg (fun x=>Ending.returned (.bool x)) HN.out.symm,Below.refl _ _⟩
 ·have hd1:decide ((l.length:Int)<1)=false:=by simpa using h1
  by_cases h2:(6:Int)<l.length
  ·have HN:=Lib.hid (validB_no (l:=l) (by omega))
   have hd2:decide ((6:Int)<l.length)=true:=by simpa using h2
   go_enter Tryz.func124,Tryz.ntmps124
   go_wp2_with fail
   go_step3
   go_wp2_with fail
   try rw[Exit.noGoto_ret]
   go_ret
   exact⟨congrArg (fun x=>Ending.returned (.bool x)) HN.out.symm,Below.refl _ _⟩
  ·have hd2:decide ((6:Int)<l.length)=false:=by simpa using h2
   have H6:Hid (l.length≤6):=Lib.hid (by omega)
   go_enter Tryz.func124,Tryz.ntmps124
   go_wp2_with fail
   go_step3
   go_upto_region 5 with fail
   go_step3
   go_upto_block 0 with fail
   go_cut [3,4] from 17 to 66 (fun x y wx=>∃(ok:Bool) (L:Int),x=.bool ok∧y=.int .i64 L∧Hid ((ok&&decide (L≤64))=validB l)∧Hid (Below w.heap.size w wx))
   case first=>
    go_wp2_with fail
    go_loopw [3,4,17] (fun o p i wr=>∃(k:Nat),k≤l.length∧o=.bool true∧p=.int .i64 (prodS (l.take k))∧i=.int .i64 k∧Hid (∀i,i<k→sigB l i=true)∧Hid (Below w.heap.size w wr)) (fun _ _ i _=>l.length - (intOf i).toNat)
    case atStart=>exact⟨0,Nat.zero_le _,rfl,by simp[prodS],rfl,Lib.hid (fun i hi=>by omega),Lib.hid (Below.refl _ _)⟩
    case round=>
     obtain⟨k,hk,rfl,rfl,rfl,HS,HB⟩:=hrel
     by_cases hlt:(k:Int)<(l.length:Int)
     ·have hd:decide ((k:Int)<(l.length:Int))=true:=by simpa using hlt
      have hk':k<l.length:=by omega
      obtain⟨b1,o1,rfl,hb1,hc⟩:=HV.out (fun e=>by rw[e] at hk';simp at hk')
      obtain⟨c0, -,c2,cz⟩:=hc k hk'
      have HCS:=Lib.hid hc
      have hcell0:=(HB.out.cell (p:=⟨b1,o1+k*3,none⟩) hb1).trans c0
      have HNC:=Lib.hid (name172 (w:=wr) cz (HK.out.keep HB.out))
      clear c0 c2 cz hc
      generalize hp:prodS (l.take k)=P at*
      have HP:=Lib.hid hp
      clear hp
      go_wp2_with fail
      refine HNC.out.mono ?_
      rintro e w2 ⟨rfl,hB2⟩
      have HB2:Hid (Below w.heap.size w w2):=Lib.hid (HB.out.trans (hB2.mono HB.out.size))
      obtain⟨c0, -,c2,cz⟩:=HCS.out k hk'
      have hcell2:=(HB2.out.cell (p:=⟨b1,o1+k*3+2,none⟩) hb1).trans c2
      clear hB2 hcell0 c0 c2 cz
      have HSB:=Lib.hid (sigB_at hk')
      have HPS:=Lib.hid (prodS_take hk')
      have HPB:=Lib.hid (prodS_small (k+1) hk')
      have HV1:=Lib.hid (fun h=>validB_bad (l:=l) hk' h)
      have HBD:Hid (sigB l k=false→(false&&decide (P≤64))=validB l):=Lib.hid (fun h=>by rw[validB_bad hk' h];rfl)
      have HPN:Hid (1≤P∧P≤4096):=Lib.hid (by
       have h:=prodS_small k (by omega) HS.out
       rw[HP.out] at h
       have h4:(4:Int) ^ k≤4 ^ 6:=by
        have:=H6.out
        have:(4:Nat) ^ k≤4 ^ 6:=Nat.pow_le_pow_right (by omega) (by omega)
        exact_mod_cast this
       omega)
      generalize hsk:l[k]=s at*
      have HSK:=Lib.hid hsk
      clear hsk
      cases hn:nameB s.name with
      |false=>
       have HE:Hid ((false&&decide (P≤64))=validB l):=Lib.hid (HBD.out (by rw[HSB.out,hn];rfl))
       go_wp2_with fail
       go_meet
       case rel=>exact⟨false,P,rfl,rfl,HE,HB2⟩
      |true=>
       by_cases z1:s.size<2
       ·have HE:Hid ((false&&decide (P≤64))=validB l):=Lib.hid (HBD.out (by rw[HSB.out,decide_eq_false (show¬(2≤s.size∧s.size≤4) by omega)];simp))
        have hz1:decide (s.size<2)=true:=by simpa using z1
        go_wp2_with fail
        go_meet
        case rel=>exact⟨false,P,rfl,rfl,HE,HB2⟩
       ·have hz1:decide (s.size<2)=false:=by simpa using z1
        by_cases z2:4<s.size
        ·have HE:Hid ((false&&decide (P≤64))=validB l):=Lib.hid (HBD.out (by rw[HSB.out,decide_eq_false (show¬(2≤s.size∧s.size≤4) by omega)];simp))
         have hz2:decide (4<s.size)=true:=by simpa using z2
         go_wp2_with fail
         go_meet
         case rel=>exact⟨false,P,rfl,rfl,HE,HB2⟩
        ·have hz2:decide (4<s.size)=false:=by simpa using z2
         have HSB2:Hid (sigB l k=(List.range k).all (otherB l s.name)):=Lib.hid (by rw[HSB.out,hn,decide_eq_true (show 2≤s.size∧s.size≤4 by omega)];rfl)
         clear hn
         go_wp2_with fail
         clear hcell2
         go_loopw [3,44] (fun o j wr=>∃i:Nat,i≤k∧o=.bool true∧j=.int .i64 i∧Hid ((List.range i).all (otherB l s.name)=true)∧Hid (Below w.heap.size w wr)) (fun _ j _=>k - (intOf j).toNat)
         case atStart=>exact⟨0,Nat.zero_le _,rfl,rfl,Lib.hid rfl,HB2⟩
         case round=>
          obtain⟨i,hi,rfl,rfl,HA,HB3⟩:=hrel
          by_cases hlt2:(i:Int)<(k:Int)
          ·have hd3:decide ((i:Int)<(k:Int))=true:=by simpa using hlt2
           have hi':i<l.length:=by omega
           have hil:(i:Int)<(l.length:Int):=by omega
           obtain⟨q0, -, -, -⟩:=HCS.out i hi'
           obtain⟨r0, -, -, -⟩:=HCS.out k hk'
           rw[HSK.out] at r0
           have q0:=(HB3.out.cell (p:=⟨b1,o1+i*3,none⟩) hb1).trans q0
           have r0:=(HB3.out.cell (p:=⟨b1,o1+k*3,none⟩) hb1).trans r0
           have HOT:=Lib.hid (otherB_at (nm:=s.name) hi')
           generalize l[i]=t at*
           go_upto_region 13 with fail
           by_cases he:t.name=s.name
           ·have hb:(t.name.toList==s.name.toList)=true:=by rw[he];simp
            have HE:Hid ((false&&decide (P≤64))=validB l):=Lib.hid (HBD.out (by rw[HSB2.out];exact all_stop (k:=i) (by omega) (by rw[HOT.out,he];simp)))
            go_quiet (fail)
            have HQ:Hid (Below w.heap.size w (wr.drewN nq)):=Lib.hid (below_drawn HB3.out nq)
            generalize wr.drewN nq=w3 at*
            clear q0 r0
            go_wp2_with fail
            go_meet
            case rel=>exact⟨false,P,rfl,rfl,HE,HQ⟩
           ·have hb:(t.name.toList==s.name.toList)=false:=bytes_ne he
            have HA2:Hid ((List.range (i+1)).all (otherB l s.name)=true):=Lib.hid (all_step HA.out (by rw[HOT.out];simpa using he))
            go_quiet (fail)
            have HQ:Hid (Below w.heap.size w (wr.drewN nq)):=Lib.hid (below_drawn HB3.out nq)
            generalize wr.drewN nq=w3 at*
            clear q0 r0
            go_wp2_with fail
            go_roundw
            case rel=>exact⟨i+1,by omega,rfl,by go_num,HA2,HQ⟩
            case measure=>simp[intOf];omega
          ·have hd3:decide ((i:Int)<(k:Int))=false:=by simpa using hlt2
           have:i=k:=by omega
           subst this
           have HT:Hid (sigB l i=true):=Lib.hid (by rw[HSB2.out,HA.out])
           obtain⟨-, -,r2, -⟩:=HCS.out i hk'
           rw[HSK.out] at r2
           have r2:=(HB3.out.cell (p:=⟨b1,o1+i*3+2,none⟩) hb1).trans r2
           obtain⟨p1,p2⟩:=HPN.out
           have m1:P*s.size≤4096*4:=Int.mul_le_mul p2 (by omega) (by omega) (by omega)
           have m2:0≤P*s.size:=Int.mul_nonneg (by omega) (by omega)
           have hwm:IntKind.i64.wrap (P*s.size)=P*s.size:=by rw[IntKind.wrap_i64];omega
           have HP1:Hid (prodS (l.take (i+1))=P*s.size):=Lib.hid (by rw[HPS.out,HP.out])
           go_wp2_with fail
           go_roundw
           case rel=>
            refine⟨i+1,by omega,rfl,by rw[HP1.out],by go_num,Lib.hid (fun j hj=>?_),HB3⟩
            rcases Nat.lt_or_ge j i with h|h
            ·exact HS.out j h
            ·obtain rfl:j=i:=by omega
             exact HT.out
           case measure=>simp[intOf];omega
     ·have hd:decide ((k:Int)<(l.length:Int))=false:=by simpa using hlt
      have:k=l.length:=by omega
      subst this
      have HE:Hid (((true:Bool)&&decide (prodS l≤64))=validB l):=Lib.hid (by
       unfold validB
       rw[decide_eq_true (show 1≤l.length∧l.length≤6 by have:=H6.out;omega),List.all_eq_true.2 (fun i hi=>HS.out i (List.mem_range.1 hi))]
       rfl)
      go_wp2_with fail
      go_meet
      case rel=>exact⟨true,_,rfl,rfl,HE,HB⟩
   case rest=>
    obtain⟨ok,L,rfl,rfl,HE,HB⟩:=hcut
    cases ok with
    |false=>
     go_wp2_with fail
     try rw[Exit.noGoto_ret]
     go_ret
     exact⟨congrArg (fun x=>Ending.returned (.bool x)) HE.out,HB.out⟩
    |true=>
     go_wp2_with fail
     try rw[Exit.noGoto_ret]
     go_ret
     exact⟨congrArg (fun x=>Ending.returned (.bool x)) HE.out,HB.out⟩
end
section
open Go.RowKit
def formT:Nat→Form
 |1=>⟨0,0,0,0,false,false,false,true⟩
 |2=>⟨0,0,0,0,false,false,false,true⟩
 |3=>⟨0,0,3,0,true,false,false,true⟩
 |4=>⟨1,1,0,0,false,false,false,true⟩
 |5=>⟨2,1099511627776,0,0,false,false,false,true⟩
 |6=>⟨2,1099511627776,0,0,false,false,false,true⟩
 |7=>⟨2,2,0,0,false,false,false,false⟩
 |8=>⟨1,1,0,0,false,false,true,true⟩
 |9=>⟨2,2,0,0,false,false,true,true⟩
 |10=>⟨2,2,0,0,false,false,true,true⟩
 |11=>⟨1,1,0,0,false,false,true,false⟩
 |12=>⟨1,1,0,0,false,false,true,false⟩
 |13=>⟨1,1,0,9,false,false,true,false⟩
 |14=>⟨1,1,0,9,false,false,true,false⟩
 |15=>⟨1,1,1,0,false,true,false,true⟩
 |16=>⟨2,2,1,0,false,true,false,true⟩
 |17=>⟨2,2,1,0,false,true,false,true⟩
 |18=>⟨1,1,0,0,false,true,false,false⟩
 |19=>⟨1,1,0,0,false,true,false,false⟩
 |_=>Form.none
def Forms (w:World):Prop:=∀op,1≤op→op<20→FormIn w op (formT op)
theorem Forms.keep {w w':World} (h:Forms w) (hB:Below w.heap.size w w'):Forms w':=fun op h1 h2=>(h op h1 h2).keep hB
def inB (op:Int):Bool:=decide (1≤op∧op<20)
def formL (op:Int):Form:=if inB op=true then formT op.toNat else Form.none
theorem formOf_any {w:World} {op:Int} (hF:Forms w):Calls Tryz.prog 155 #[.int .i64 op] w fun e w'=>e=.returned (.tuple #[(formL op).agg,.bool (inB op)])∧Below w.heap.size w w':=by
 by_cases h:1≤op∧op<20
 ·have e1:inB op=true:=decide_eq_true h
  obtain⟨k,rfl⟩:∃k:Nat,op=k:=⟨op.toNat,by omega⟩
  have:=formOf155 (w:=w) (op:=k) (by omega) (by omega) (hF k (by omega) (by omega))
  unfold formL
  rw[e1,if_pos rfl]
  exact this
 ·have e1:inB op=false:=decide_eq_false h
  unfold formL
  rw[e1,if_neg (by simp)]
  exact formOf155_out (by omega)
def shB (op:Int) (nm:ByteArray) (v bd:Int) (args:Fs):Bool:=inB op&&shp (formL op) nm v bd args.len (nameB nm)
theorem shaped_any {w:World} {b off:Nat} {op v bd:Int} {nm:ByteArray} {args rest:Fs} (hF:Forms w) (hK:Keys w) (hA:FAt w (.cons op nm v bd args rest) b off) (hb:b<w.heap.size):
  Calls Tryz.prog 156 #[.pointer (some ⟨b,off,none⟩)] w fun e w'=>e=.returned (.bool (shB op nm v bd args))∧Below w.heap.size w w':=by
 have hnm:=hA.2.2.1
 by_cases h:1≤op∧op<20
 ·have e1:inB op=true:=decide_eq_true h
  obtain⟨k,rfl⟩:∃k:Nat,op=k:=⟨op.toNat,by omega⟩
  have:=shaped156 (nb:=nameB nm) (op:=k) (by omega) (by omega) (hF k (by omega) (by omega)) hA hb (fun _ w' hB=>name172 hnm (hK.keep hB))
  unfold shB formL
  rw[e1,if_pos rfl,Bool.true_and]
  exact this
 ·have e1:inB op=false:=decide_eq_false h
  unfold shB
  rw[e1,Bool.false_and]
  exact shaped156_out (by omega) hA hb
end
section
open Go.RowKit Go.Shelf
attribute [local go_sem] Oper.semAt_some
def upF (n k:Nat):List (Fin n):=(List.range k).filterMap (fun i=>if h:i<n then some ⟨i,h⟩ else none)
theorem upF_succ {n k:Nat} (h:k<n):upF n (k+1)=upF n k++[⟨k,h⟩]:=by
 unfold upF
 rw[List.range_succ,List.filterMap_append]
 simp[h]
theorem upF_length {n:Nat}:∀ {k:Nat},k≤n→(upF n k).length=k
 |0,_=>rfl
 |k+1,h=>by rw[upF_succ (show k<n by omega)];simp[upF_length (show k≤n by omega)]
def Tame (l:List Sg):Prop:=l.length≤6∧(∀s∈l,2≤s.size∧s.size≤4)∧∀k,k≤l.length→1≤prodS (l.take k)∧prodS (l.take k)≤4096
theorem tame_of {l:List Sg} (h:validB l=true):Tame l:=by
 unfold validB at h
 simp only[Bool.and_eq_true,decide_eq_true_eq,List.all_eq_true,List.mem_range] at h
 obtain⟨⟨⟨h1,h6⟩,ha⟩,hp⟩:=h
 refine⟨h6,fun s hs=>?_,fun k hk=>?_⟩
 ·obtain⟨i,hi,rfl⟩:=List.getElem_of_mem hs
  have:=ha i hi
  rw[sigB_at hi] at this
  simp only[Bool.and_eq_true,decide_eq_true_eq] at this
  exact this.1.2
 ·have:=prodS_small k hk (fun i hi=>ha i (by omega))
  have h4:(4:Int) ^ k≤4 ^ 6:=by
   have:(4:Nat) ^ k≤4 ^ 6:=Nat.pow_le_pow_right (by omega) (by omega)
   exact_mod_cast this
  omega
def encW (l:List Sg) (x:Fin l.length):Array Value:= #[.int .i64 (x.1:Int),.int .i64 (prodS (l.take x.1))]
set_option maxRecDepth 100000 in
set_option maxHeartbeats 4000000 in
theorem weights218 (F:Fence) (n:Nat) (h218:F.fn 218) (hro:F.round=none) (hn:1≤n) (y Bs n0:Nat) (p:Nat→Bool) (a:Option Addr) (c:Nat) (l:List Sg) (hT:Tame l) (J Jx:List (Fin l.length)→World→Prop)
  (hY:∀pre x W,J pre W→pre.length<l.length→YieldAt F (n - 1) Tryz.prog y (encW l x) W fun e W'=>
   (e=.returned (.bool true)∧J (pre++[x]) W'∧Fr p n0 W W')∨(e=.returned (.bool false)∧Jx (pre++[x]) W'))
  (W:World) (hBs0:Bs<n0∧p Bs=false) (hBs:W.cell? ⟨Bs,0,none⟩=some (.slice a l.length c)) (hb:∀b o,a=some ⟨b,o,none⟩→b<n0∧p b=false) (hv:SgV W (.slice a l.length c) l) (h0:J [] W):
  CallsIn F n Tryz.prog 218 #[.func (.yield y) #[] #[],.pointer (some ⟨Bs,0,none⟩)] W fun e W'=>(∃v,e=.returned v)∧
   ((∃ys,ys=upF l.length l.length∧J ys W')∨(∃pre,(∃k,k≤l.length∧pre=upF l.length k)∧Jx pre W')):=by
 obtain⟨a',c',he,hl,hv⟩:=hv
 obtain⟨rfl, -,rfl⟩:a=a'∧l.length=l.length∧c=c':=by simpa using he
 have HV:=Lib.hid hv
 have HT:=Lib.hid hT
 have HBB:=Lib.hid hb
 have HY:=Lib.hid hY
 have h6:l.length≤6:=hT.1
 clear hv hT he hb hY
 refine callsIn_of_wp Tryz.func218 rfl h218 ?_ hro
 simp only[Tryz.ntmps218,List.size_toArray,List.length_cons,List.length_nil,Nat.reduceAdd,Nat.reduceSub,Array.replicate_succ,Array.replicate_zero,List.push_toArray,List.append_toArray,List.nil_append,List.cons_append]
 gi_wp2
 gi_loopw [3,7] (fun q i wr=>∃k:Nat,k≤l.length∧i=.int .i64 k∧q=.int .i64 (prodS (l.take k))∧Hid (J (upF l.length k) wr)∧Hid (Fr p n0 W wr))
  (fun _ i _=>l.length - (intOf i).toNat)
 case atStart=>exact⟨0,Nat.zero_le _,rfl,by simp[prodS],Lib.hid h0,Lib.hid (Fr.refl _ _ _)⟩
 case round=>
  obtain⟨k,hk,rfl,rfl,HJ,HN⟩:=hrel
  by_cases hlt:k<l.length
  ·have hd:decide ((k:Int)<(l.length:Int))=true:=by simpa using hlt
   obtain⟨b1,o1,rfl,hb1,hc⟩:=HV.out (fun e=>by rw[e] at hlt;simp at hlt)
   obtain⟨fn,tmps,assign,body,hy,hR⟩:=HY.out _ ⟨k,hlt⟩ wr HJ.out (by rw[upF_length hk];exact hlt)
   have HR:=Lib.hid hR
   obtain⟨-, -,c2, -⟩:=hc k hlt
   have HC:=Lib.hid c2
   have hPS:=prodS_take hlt
   have t1:=HT.out.2.2 k hk
   have t2:=HT.out.2.2 (k+1) (by omega)
   have HPS:=Lib.hid hPS
   have hws:IntKind.i64.wrap (prodS (l.take k)*l[k].size)=prodS (l.take k)*l[k].size:=by rw[IntKind.wrap_i64,←hPS];omega
   unfold encW at hy
   dsimp only at hy
   clear hR c2 hc hPS t1 t2
   generalize hp:prodS (l.take k)=P at*
   generalize l[k]=s at*
   have HBs:=Lib.hid ((HN.out.cell (a:=⟨Bs,0,none⟩) hBs0.1 hBs0.2).trans hBs)
   have cB:=HBs.out
   have HX:=Lib.hid hBs
   clear hBs
   gi_wp2
   refine HR.out.mono ?_
   rintro e W3 (⟨rfl,hJ3,hk3⟩|⟨rfl,hJx3⟩)
   ·have HJ3:Hid (J (upF l.length (k+1)) W3):=Lib.hid (by rw[upF_succ hlt];exact hJ3)
    have HN3:Hid (Fr p n0 W W3):=Lib.hid (HN.out.trans hk3)
    have cB:=(HN3.out.cell (a:=⟨Bs,0,none⟩) hBs0.1 hBs0.2).trans HX.out
    have c2:=(HN3.out.cell (a:=⟨b1,o1+k*3+2,none⟩) (HBB.out b1 o1 rfl).1 (HBB.out b1 o1 rfl).2).trans HC.out
    clear hJ3 hk3
    gi_wp2
    go_roundw
    case rel=>exact⟨k+1,by omega,by go_num,by rw[HPS.out],HJ3,HN3⟩
    case measure=>simp[intOf];omega
   ·gi_wp2
    refine bodyPost_ret (results_none rfl _ _ _) rfl ?_
    exact⟨⟨_,rfl⟩,.inr ⟨_,⟨k+1,by omega,(upF_succ hlt).symm⟩,hJx3⟩⟩
  ·obtain rfl:k=l.length:=by omega
   have hd:decide ((l.length:Int)<(l.length:Int))=false:=by simp
   gi_wp2
   go_end0
   exact⟨⟨_,rfl⟩,.inl ⟨_,rfl,HJ.out⟩⟩
theorem weights143 (w:World) (a:Option Addr) (k c:Nat):Calls Tryz.prog 143 #[.slice a k c] w fun e w'=>e=.returned (.func (.func 218) #[] #[.pointer (some ⟨w.heap.size,0,none⟩)])∧w'=w.alloc (.cells #[.slice a k c] 45):=by
 have hmf:∀(fn:Fn) (first cap:Array Value) (w:World),(Instr.makeFunc fn first cap).run Tryz.prog w=.ok (.func fn first cap) w:=fun _ _ _ _=>rfl
 go_enter Tryz.func143,Tryz.ntmps143
 go_wp2
 go_ret
 exact⟨rfl,rfl⟩
theorem weights_stops (F:Fence) (n:Nat) (h218:F.fn 218) (hro:F.round=none) (hn:1≤n) (Bs n0:Nat) (p:Nat→Bool) (a:Option Addr) (c:Nat) (l:List Sg) (hT:Tame l) (w:World) (hBs0:Bs<n0∧p Bs=false) (hn0:n0≤w.heap.size)
  (hBs:w.cell? ⟨Bs,0,none⟩=some (.slice a l.length c)) (hb:∀b o,a=some ⟨b,o,none⟩→b<n0∧p b=false) (hv:SgV w (.slice a l.length c) l):
  SeqStopsK F n Tryz.prog 218 #[.pointer (some ⟨Bs,0,none⟩)] (encW l) (Fr p n0) (fun ys=>ys=upF l.length l.length) (fun pre=>∃k,k≤l.length∧pre=upF l.length k) l.length w:=fun y J Jx W hW _ _ hY h0=>
 weights218 F n h218 hro hn y Bs n0 p a c l hT J Jx hY W hBs0 ((hW.cell (p:=⟨Bs,0,none⟩) (Nat.lt_of_lt_of_le hBs0.1 hn0)).trans hBs) hb (hv.keep hW) h0
end
section
open Go.RowKit Go.Shelf
attribute [local go_sem] Oper.semAt_some
def prodF (l:List Sg):List (Fin l.length)→Int
 |[]=>1
 |x::xs=>l[x.1].size*prodF l xs
theorem prodF_append (l:List Sg) (a b:List (Fin l.length)):prodF l (a++b)=prodF l a*prodF l b:=by
 induction a with
 |nil=>simp[prodF]
 |cons x a ih=>simp[prodF,ih,Int.mul_assoc]
theorem prodF_small {l:List Sg} (hT:Tame l):∀a:List (Fin l.length),1≤prodF l a∧prodF l a≤4 ^ a.length
 |[]=>by simp[prodF]
 |x::a=>by
  have ih:=prodF_small hT a
  have hs:=hT.2.1 _ (List.getElem_mem x.2)
  simp only[prodF,List.length_cons]
  constructor
  ·have:=Int.mul_le_mul (show(1:Int)≤l[x.1].size by omega) ih.1 (by omega) (by omega)
   simpa using this
  ·have:=Int.mul_le_mul hs.2 ih.2 (by omega) (by omega)
   rw[Int.pow_succ,Int.mul_comm]
   rw[Int.mul_comm (l[x.1].size)] at this
   have h2:prodF l a*l[x.1].size≤4 ^ a.length*4:=by
    have:=Int.mul_le_mul ih.2 hs.2 (by omega) (by omega)
    exact this
   exact h2
theorem prodF_up (l:List Sg):∀k,k≤l.length→prodF l (upF l.length k)=prodS (l.take k)
 |0,_=>rfl
 |k+1,h=>by
  rw[upF_succ (show k<l.length by omega),prodF_append,prodF_up l k (by omega),prodS_take (show k<l.length by omega)]
  simp[prodF]
def letN (l:List Sg):Int:=if validB l=true then prodS l else 0
theorem cell_one {w:World} {b:Nat} {v:Value} {t:TypeId} (h:w.heap[b]? =some (.cells #[v] t (0,0))):w.cell? ⟨b,0,none⟩=some v∧w.frozen? ⟨b,0,none⟩=false:=by
 constructor
 ·simp[World.cell?,h]
 ·simp[World.frozen?,h]
theorem below_fr2 {B nb n0:Nat} {w w' w'':World} (h:Below B w w') (k:Fr (only nb) n0 w' w'') (h1:B≤nb) (h2:B≤n0):Below B w w'':=
 ⟨k.os.trans h.os,k.tape.trans h.tape,k.output.trans h.output,Nat.le_trans h.size k.size,fun i hi=>(k.block i (by omega) (by simp only[only];simp;omega)).trans (h.block i hi)⟩
theorem letters132 (w:World) (x:ByteArray) (y:Bool) (z:Int):Calls Tryz.prog 132 #[.agg #[.string x,.bool y,.int .i64 z]] w fun e w'=>e=.returned (.bool true)∧w'=w.alloc (.cells #[.string x,.bool y,.int .i64 z] 73):=by
 go_enter Tryz.func132,Tryz.ntmps132
 go_wp2
 go_ret
 exact⟨rfl,rfl⟩
set_option maxRecDepth 100000 in
set_option maxHeartbeats 4000000 in
theorem count131 {w:World} {v:Value} {l:List Sg} (hv:SgV w v l) (hK:Keys w):
  CallsIn Fence.wide 3 Tryz.prog 131 #[v,.func (.func 132) #[] #[]] w fun e w'=>e=.returned (.int .i64 (letN l))∧Below w.heap.size w w':=by
 have HVV:=Lib.hid hv
 obtain⟨a,c,rfl,hl, -⟩:=hv
 have HK:=Lib.hid hK
 clear hK
 refine callsIn_of_wp_marks Tryz.func131 rfl trivial ?_ rfl
 simp only[Tryz.ntmps131,List.size_toArray,List.length_cons,List.length_nil,Nat.reduceAdd,Nat.reduceSub,Array.replicate_succ,Array.replicate_zero,List.push_toArray,List.append_toArray,List.nil_append,List.cons_append]
 gi_wp2
 obtain⟨W1,hW1⟩:∃W1,W1=(w.alloc (.cells #[.slice a l.length c] 45)).alloc (.cells #[.func (.func 132) #[] #[]] 187):=⟨_,rfl⟩
 have hz1:W1.heap[w.heap.size+1]? =some (.cells #[.func (.func 132) #[] #[]] 187 (0,0)):=by rw[hW1];have:=World.alloc_heap_new (w.alloc (.cells #[.slice a l.length c] 45)) (.cells #[.func (.func 132) #[] #[]] 187);rw[World.size_alloc] at this;exact this
 have hz0:W1.heap[w.heap.size]? =some (.cells #[.slice a l.length c] 45 (0,0)):=by rw[hW1,heap_alloc_old _ _ (by rw[World.size_alloc];omega)];exact World.alloc_heap_new w _
 have hs1:W1.heap.size=w.heap.size+2:=by rw[hW1,World.size_alloc,World.size_alloc]
 have HB1:Hid (Below w.heap.size w W1):=Lib.hid (by rw[hW1];exact((Below.refl _ _).alloc (Nat.le_refl _) _).alloc (by rw[World.size_alloc];omega) _)
 rw[←hW1]
 clear hW1
 have HZ:=Lib.hid (And.intro hz0 (And.intro hz1 hs1))
 clear hz0 hz1 hs1
 refine⟨trivial,(callsIn_wide.2 (valid124 (HVV.out.keep HB1.out) (HK.out.keep HB1.out))).mono ?_⟩
 rintro e W2 ⟨rfl,hB2⟩
 have HB2:Hid (Below w.heap.size w W2):=Lib.hid (HB1.out.trans (hB2.mono HB1.out.size))
 have hs2:w.heap.size+2≤W2.heap.size:=by have:=hB2.size;have:=HZ.out.2.2;omega
 have z0:W2.heap[w.heap.size]? =some (.cells #[.slice a l.length c] 45 (0,0)):=(hB2.block _ (by have:=HZ.out.2.2;omega)).trans HZ.out.1
 have z1:W2.heap[w.heap.size+1]? =some (.cells #[.func (.func 132) #[] #[]] 187 (0,0)):=(hB2.block _ (by have:=HZ.out.2.2;omega)).trans HZ.out.2.1
 clear hB2 HB1 HZ
 cases hva:validB l with
 |false=>
  have HN:Hid (letN l=0):=Lib.hid (by unfold letN;rw[hva];rfl)
  clear z0 z1
  gi_wp2
  refine⟨_,results_tmp rfl _ _ _,?_,HB2.out⟩
  exact congrArg (fun x=>Ending.returned (.int .i64 x)) HN.out.symm
 |true=>
  have HN:Hid (letN l=prodS l):=Lib.hid (by unfold letN;rw[hva];rfl)
  have HT:=Lib.hid (tame_of hva)
  have HL:Hid (1≤l.length):=Lib.hid (by
   unfold validB at hva
   simp only[Bool.and_eq_true,decide_eq_true_eq] at hva
   exact hva.1.1.1)
  clear hva
  obtain⟨c0,f0⟩:=cell_one z0
  obtain⟨c1,f1⟩:=cell_one z1
  have HW:Hid (W2.heap[w.heap.size]? =some (.cells #[.slice a l.length c] 45 (0,0))∧W2.heap[w.heap.size+1]? =some (.cells #[.func (.func 132) #[] #[]] 187 (0,0))):=Lib.hid ⟨z0,z1⟩
  have c0:=(World.cell?_alloc_past (.cells #[.int .i64 1] 3) w.heap.size 0 (by omega)).trans c0
  clear c1 f1 f0 z0 z1
  gi_wp2
  refine⟨trivial,(callsIn_wide.2 (weights143 _ a l.length c)).mono ?_⟩
  rintro e W3 ⟨rfl,rfl⟩
  generalize hnb:W2.heap.size=nb at*
  obtain⟨W4,hW4⟩:∃W4,W4=(W2.alloc (.cells #[.int .i64 1] 3)).alloc (.cells #[.slice a l.length c] 45):=⟨_,rfl⟩
  have hs4:W4.heap.size=nb+2:=by rw[hW4,World.size_alloc,World.size_alloc,hnb]
  have hB4:Below nb W2 W4:=by rw[hW4];exact((Below.refl _ _).alloc (by omega) _).alloc (by rw[World.size_alloc];omega) _
  have hn4:W4.heap[nb]? =some (.cells #[.int .i64 1] 3 (0,0)):=by rw[hW4,heap_alloc_old _ _ (by rw[World.size_alloc];omega),←hnb];exact World.alloc_heap_new W2 _
  have hb4:W4.heap[nb+1]? =some (.cells #[.slice a l.length c] 45 (0,0)):=by
   have:=World.alloc_heap_new (W2.alloc (.cells #[.int .i64 1] 3)) (.cells #[.slice a l.length c] 45)
   rw[World.size_alloc,hnb] at this
   rw[hW4];exact this
  have HB4:Hid (Below w.heap.size w W4):=Lib.hid (HB2.out.trans (hB4.mono (by omega)))
  have HV4:=Lib.hid (HVV.out.keep HB4.out)
  have HBB:Hid (∀b o,a=some ⟨b,o,none⟩→b<nb+2∧only nb b=false):=Lib.hid (fun b o e=>by
   obtain⟨a',c',he, -,hv⟩:=HVV.out
   obtain⟨rfl, -,rfl⟩:a=a'∧l.length=l.length∧c=c':=by simpa using he
   obtain⟨b',o',e',hb', -⟩:=hv (fun e=>by have:=HL.out;rw[e] at this;simp at this)
   rw[e] at e'
   simp only[Option.some.injEq,Addr.mk.injEq] at e'
   refine⟨by omega,by simp only[only];simp;omega⟩)
  have HW4:Hid (W4.heap[w.heap.size]? =some (.cells #[.slice a l.length c] 45 (0,0))∧W4.heap[w.heap.size+1]? =some (.cells #[.func (.func 132) #[] #[]] 187 (0,0))∧W4.heap[nb]? =some (.cells #[.int .i64 1] 3 (0,0))∧W4.heap[nb+1]? =some (.cells #[.slice a l.length c] 45 (0,0))):=Lib.hid
   ⟨(hB4.block _ (by omega)).trans HW.out.1,(hB4.block _ (by omega)).trans HW.out.2,hn4,hb4⟩
  have e1:(W2.alloc (.cells #[.int .i64 1] 3)).heap.size=nb+1:=by rw[World.size_alloc,hnb]
  simp only[World.size_alloc,hnb,←hW4]
  clear hn4 hb4 hB4 c0 HW hnb e1 hW4
  have q0:only nb (w.heap.size)=false:=by simp only[only];simp;omega
  have q1:only nb (w.heap.size+1)=false:=by simp only[only];simp;omega
  gi_wp2
  refine wpIn_rangeFunc_ownF (w:=W4) rfl (by omega) (gf:=218) (lb:= #[.pointer (some ⟨nb+1,0,none⟩)]) rfl trivial (enters_of Tryz.func218 (by kernel_rfl) rfl)
   (weights_stops Fence.wide 2 trivial rfl (by omega) (nb+1) (nb+2) (only nb) a c l HT.out W4 ⟨by omega,by simp only[only];simp⟩ (by omega) (cell_one HW4.out.2.2.2).1 HBB.out HV4.out)
   (fun h k=>h.trans k)
   (fun W y o o' h1 h2 _ _=>(Fr.refl _ _ W).grown (grownBy_putObj' W y o') (by have:=(Array.getElem?_eq_some_iff.1 h2).1;omega) (fun k e=>by cases e;exact .inr (by omega)))
   (Below.refl _ _) (fun _=>rfl)
   (fun pre W=>W.heap[nb]? =some (.cells #[.int .i64 (prodF l pre)] 3 (0,0))∧Fr (only nb) (nb+2) W4 W)
   (fun _ _ _=>False)
   (fun s A B row ⟨h1,h2⟩ hg hr=>⟨(hg.block nb (Array.getElem?_eq_some_iff.1 h1).1 (fun e=>by have:=(hr nb e.symm).1;omega)).trans h1,h2.grown hg (by have:=h2.size;omega) (fun k e=>.inr (by have:=(hr k e).1;omega))⟩)
   (fun _ _ _ _ _ hs _ _=>hs)
   ⟨HW4.out.2.2.1,Fr.refl _ _ _⟩
   (fun x=> {tmps:= #[.slice a l.length c,.func (.func 132) #[] #[],.pointer (some ⟨w.heap.size,0,none⟩),.pointer (some ⟨w.heap.size+1,0,none⟩),.int .i64 0,.pointer (some ⟨nb,0,none⟩),.int .i64 (x.1:Int),.slice a l.length c,.bool true,.bool false,.slice a l.length c,.func (.func 218) #[] #[.pointer (some ⟨nb+1,0,none⟩)],.int .i64 (x.1:Int),.int .i64 (prodS (l.take x.1)),undef,undef,undef,undef,undef,undef,undef,undef,undef,undef,undef,undef,undef,undef],defers:=[]}) ?assign ?body ?done ?stop
  case assign=>
   intro y x W K hK
   unfold encW
   gi_wp2
   exact hK
  case body=>
   rintro y pre x W ⟨hn,hF⟩ hlen
   have hmx:Tryz.prog.follows .mixedOrders=true:=by kernel_rfl
   have HX:=Lib.hid (And.intro hn hF)
   have t3:W.cell? ⟨w.heap.size+1,0,none⟩=some (.func (.func 132) #[] #[]):=(hF.cell (a:=⟨w.heap.size+1,0,none⟩) (by show w.heap.size+1<nb+2;omega) q1).trans (cell_one HW4.out.2.1).1
   have t2:W.cell? ⟨w.heap.size,0,none⟩=some (.slice a l.length c):=(hF.cell (a:=⟨w.heap.size,0,none⟩) (by show w.heap.size<nb+2;omega) q0).trans (cell_one HW4.out.1).1
   obtain⟨a',c',he, -,hv⟩:=HVV.out
   obtain⟨rfl, -,rfl⟩:a=a'∧l.length=l.length∧c=c':=by simpa using he
   obtain⟨b1,o1,rfl,hb1,hc⟩:=hv (fun e=>by have:=HL.out;rw[e] at this;simp at this)
   obtain⟨s0,s1,s2, -⟩:=hc x.1 x.2
   have hbb:=HBB.out b1 o1 rfl
   have g0:=(hF.cell (a:=⟨b1,o1+x.1*3,none⟩) hbb.1 hbb.2).trans ((HB4.out.cell (p:=⟨b1,o1+x.1*3,none⟩) hb1).trans s0)
   have g1:=(hF.cell (a:=⟨b1,o1+x.1*3+1,none⟩) hbb.1 hbb.2).trans ((HB4.out.cell (p:=⟨b1,o1+x.1*3+1,none⟩) hb1).trans s1)
   have g2:=(hF.cell (a:=⟨b1,o1+x.1*3+2,none⟩) hbb.1 hbb.2).trans ((HB4.out.cell (p:=⟨b1,o1+x.1*3+2,none⟩) hb1).trans s2)
   have hx:=x.2
   have n0:=(cell_one hn).1
   have nf:=(cell_one hn).2
   clear hn hF he hv hc s0 s1 s2
   have HPF:Hid (prodF l (pre++[x])=prodF l pre*l[x.1].size):=Lib.hid (by rw[prodF_append];simp[prodF])
   have HPB:=prodF_small HT.out pre
   have HPW:Hid (IntKind.i64.wrap (prodF l pre*l[x.1].size)=prodF l pre*l[x.1].size):=Lib.hid (by
    have h2:=prodF_small HT.out (pre++[x])
    rw[HPF.out] at h2
    have h4:(4:Int) ^ (pre++[x]).length≤4 ^ 6:=by
     have:=HT.out.1
     have:(4:Nat) ^ (pre++[x]).length≤4 ^ 6:=Nat.pow_le_pow_right (by omega) (by simp;omega)
     exact_mod_cast this
    rw[IntKind.wrap_i64];omega)
   clear HPB
   generalize l[x.1]=s at*
   generalize hpf:prodF l pre=P at*
   gi_wp2
   gi_cut [19] from 14 (fun r wx=>r=.bool true∧wx=(W.alloc (.cells #[.string s.name,.bool s.input,.int .i64 s.size] 73)).drew)
   case first=>
    gi_region_with_o (refine⟨trivial,?_⟩;gi_at_call 132;refine(CallsIn.inRound y (callsIn_wide.2 (letters132 _ _ _ _))).mono ?_;rintro e w' ⟨rfl,rfl⟩)
    all_goals (gi_wp2;gi_meet;exact⟨rfl,rfl⟩)
   case rest=>
    obtain⟨rfl,rfl⟩:=hcut
    have hko:KeepsOthers W (W.alloc (.cells #[.string s.name,.bool s.input,.int .i64 s.size] 73)).drew:=(KeepsOthers.alloc _ _).trans (KeepsOthers.drew _)
    have hblt:nb<W.heap.size:=(Array.getElem?_eq_some_iff.1 HX.out.1).1
    have hsz:=HX.out.2.size
    have hFX:Fr (only nb) (nb+2) W4 (W.alloc (.cells #[.string s.name,.bool s.input,.int .i64 s.size] 73)).drew:=(HX.out.2.alloc (by omega) _).drawn 1
    have hX0:(W.alloc (.cells #[.string s.name,.bool s.input,.int .i64 s.size] 73)).drew.heap[nb]? =some (.cells #[.int .i64 P] 3 (0,0)):=(heap_alloc_old W _ hblt).trans HX.out.1
    have t2:(W.alloc (.cells #[.string s.name,.bool s.input,.int .i64 s.size] 73)).drew.cell? ⟨w.heap.size,0,none⟩=some (.slice (some ⟨b1,o1,none⟩) l.length c):=(World.cell?_alloc_past _ _ _ (by omega)).trans t2
    have g2:(W.alloc (.cells #[.string s.name,.bool s.input,.int .i64 s.size] 73)).drew.cell? ⟨b1,o1+x.1*3+2,none⟩=some (.int .i64 s.size):=(World.cell?_alloc_past _ _ _ (by omega)).trans g2
    have hFW:Fr (only nb) (nb+2) W (W.alloc (.cells #[.string s.name,.bool s.input,.int .i64 s.size] 73)).drew:=((Fr.refl _ _ _).alloc (by omega) _).drawn 1
    generalize (W.alloc (.cells #[.string s.name,.bool s.input,.int .i64 s.size] 73)).drew=X at*
    have n0:=(cell_one hX0).1
    have nf:=(cell_one hX0).2
    have hw:=HPW.out
    have HY:Hid (KeepsOthers W X∧Fr (only nb) (nb+2) W X∧Fr (only nb) (nb+2) W4 X∧X.heap[nb]? =some (.cells #[.int .i64 P] 3 (0,0))):=Lib.hid ⟨hko,hFW,hFX,hX0⟩
    clear hko hFW hFX hX0 t3 g0 g1
    gi_wp2
    gi_region_with_o (fail)
    all_goals (try gi_wp2)
    all_goals
     refine⟨HY.out.1.trans ((KeepsOthers.setCell _ _ _).trans (KeepsOthers.drew _)),(HY.out.2.1.setCell (a:=⟨nb,0,none⟩) (.inl (by simp[only])) _).drawn 1,?_,(HY.out.2.2.1.setCell (a:=⟨nb,0,none⟩) (.inl (by simp[only])) _).drawn 1⟩
     rw[HPF.out]
     exact heap_setCell_same X nb 0 _ 3 (.int .i64 (P*s.size)) HY.out.2.2.2
  case done=>
   rintro D ys W hD rfl ⟨hn,hF⟩ hK
   have n0:=(cell_one hn).1
   have HF:=Lib.hid hF
   have HKK:=Lib.hid hK
   clear hn hF
   gi_wp2
   refine⟨by simp,.inl ⟨_,_,rfl,run_takeDeferred hK,?_⟩⟩
   refine⟨_,results_tmp rfl _ _ _,?_,?_⟩
   ·refine congrArg (fun x=>Ending.returned (.int .i64 x)) ?_
    rw[prodF_up l _ (Nat.le_refl _),List.take_length,HN.out]
   ·exact(below_fr2 HB4.out HF.out (by omega) (by omega)).grown (grownBy_putObj' W D (.deferred none)) (by have:=HF.out.size;have:=HB4.out.size;omega) (fun k e=>by cases e;have:=HB4.out.size;omega)
  case stop=>
   rintro D c pre W _ _ h _
   exact h.elim
set_option maxRecDepth 100000 in
theorem letters66 {w:World} {v:Value} {l:List Sg} (hv:SgV w v l) (hK:Keys w):
  Calls Tryz.prog 66 #[v] w fun e w'=>e=.returned (.int .i64 (letN l))∧Below w.heap.size w w':=by
 have HC:=Lib.hid (callsIn_wide.1 (count131 hv hK))
 clear hv hK
 go_enter Tryz.func66,Tryz.ntmps66
 go_wp2_with fail
 refine HC.out.mono ?_
 rintro e w1 ⟨rfl,hB⟩
 go_wp2_with fail
 go_ret
 exact⟨rfl,hB⟩
end
section
variable {P:Program} {ops:Array Oper} {md:Region.Mode} {y n:Nat}
def Plain (K:Act→World→Prop):Exit→Act→World→Prop
 | .normal,a,w=>K a w
 |_,_,_=>False
theorem Plain.to {K:Act→World→Prop} {a:Act} {w:World} (h:K a w):Plain K .normal a w:=h
theorem plain_lets {K:Act→World→Prop} (h:LetsOut (Plain K)):False:=by
 obtain⟨a,w,h⟩:=h
 exact h
theorem rows_round {row:String} {args:Array Value} {w:World} {R:Value→World→Prop} (h:Rows P row args w R):RowsIn (Fence.wide.inRound y) n P row args w R:=fun c cs _=>
 let⟨v,w',r,s⟩:=h c cs
 ⟨v,w',r,stepsIn_wide.2 s⟩
theorem upon_round {o:Oper} {a:Act} {K K':Act→World→Prop} {J:Act→World→Prop} {Q:Exit→Act→World→Prop} (hK:∀a w,K a w→K' a w) {r:Result Next} (h:o.upon P a K (Plain J) r):o.uponIn (Fence.wide.inRound y) n P a K' Q r:=by
 cases r with
 |ok x w'=>
  cases x<;>simp only[Oper.upon,Oper.uponIn] at h ⊢
  case value=>exact hK _ _ h
  case skip=>exact hK _ _ h
  case defer=>exact hK _ _ h
  case enter f args=>
   refine⟨fun h=>(by cases h),CallsIn.inRound y (callsIn_wide.2 (Calls.mono h fun e w'' he=>?_))⟩
   cases e with
   |returned v=>exact hK _ _ he
   |panicked ch=>exact he.elim
   |outgrown=>exact(plain_lets he).elim
  case row r args=>exact⟨fun h=>(by cases h),rows_round (Rows.mono h fun _ _ he=>hK _ _ he)⟩
 |halt x w'=>cases x<;>simp only[Oper.upon] at h<;>exact h.elim
def calmB (l:List Oper):Bool:=l.all fun o=>match o.op with
 | .defer _=>false
 |_=>true
theorem calm_spec {l:List Oper} (h:calmB l=true) {o:Oper} (ho:o∈l):∀c,o.op≠.defer c:=by
 intro c e
 have:=List.all_eq_true.1 h o ho
 rw[e] at this
 cases this
theorem oper_round {o:Oper} {a:Act} {w:World} {K K':Act→World→Prop} {J:Act→World→Prop} {Q:Exit→Act→World→Prop} (hK:∀a w,K a w→K' a w) (hd:∀c,o.op≠.defer c)
  (h:o.wp P a w K (Plain J)):o.wpIn (Fence.wide.inRound y) n P a w K' Q:=by
 refine⟨fun _ _=>trivial,?_⟩
 rw[Oper.semAt_eq _ _ _ hd]
 exact upon_round hK h
theorem wpOp_round {l:List Oper} {i:Nat} {a:Act} {w:World} {K K':Act→World→Prop} {J:Act→World→Prop} {Q:Exit→Act→World→Prop} (hK:∀a w,K a w→K' a w) (hc:calmB l=true)
  (h:wpOp P l.toArray (Plain J) i K a w):wpOpIn (Fence.wide.inRound y) n P l.toArray Q i K' a w:=by
 unfold wpOp at h
 unfold wpOpIn
 cases ho:l.toArray[i]? with
 |none=>rw[ho] at h;exact hK _ _ h
 |some o=>
  rw[ho] at h
  dsimp only at h ⊢
  by_cases hw:Region.wanted o (yielded l.toArray a.tmps)=true
  ·rw[if_pos hw] at h ⊢
   rcases h with h|⟨_,h⟩
   ·exact oper_round hK (calm_spec hc (List.mem_of_getElem? (by simpa using ho))) h
   ·exact(plain_lets h).elim
  ·rw[if_neg hw] at h ⊢
   exact⟨fun _ _=>trivial,hK _ _ h⟩
theorem wpAny_round {l:List Oper} {J:Act→World→Prop} {Q:Exit→Act→World→Prop} (hJ:∀a w,J a w→Q .normal a w) (hc:calmB l=true):∀(f:Nat) (listed:Array Bool) (a:Act) (w:World),
  wpAny P md l.toArray (Plain J) f listed a w→wpAnyIn (Fence.wide.inRound y) n P md l.toArray Q f listed a w
 |0,_,_,_,h=>⟨h.1,hJ _ _ h.2⟩
 |f+1,_,_,_,h=>⟨fun h0=>hJ _ _ (h.1 h0),fun i hi=>wpOp_round (fun a w h=>wpAny_round hJ hc f _ a w h) hc (h.2 i hi)⟩
theorem round_still_tail {id:Nat} {Q:Exit→Act→World→Prop} {J:Act→World→Prop} {a:Act} {w:World} {l:List Oper} (k:Nat) (hm:P.follows .mixedOrders=true) (hB:Region.lexTailB .any l.toArray k=true) (hc:calmB l=true) (hJ:∀a w,J a w→Q .normal a w)
  (h:wpStill P l.toArray w.drew (fun a'=>wpList P l.toArray (Plain J) (l.drop k) a' w.drew) (l.take k) a):(Code.region id l.toArray true).wpIn (Fence.wide.inRound y) n P Q a w:=by
 simp only[Region.lexTailB,Bool.and_eq_true,decide_eq_true_eq] at hB
 obtain⟨⟨⟨⟨hsel,hn⟩,hs⟩,hch⟩,hlex⟩:=hB
 have hn':k<l.length:=by simpa using hn
 have htl:(l.take k).length=k:=by simp;omega
 have hdl:(l.drop k).length=l.toArray.size - k:=by simp
 have inv0:HeadInv .any l.toArray k (Array.replicate l.toArray.size false):=
  ⟨by simp,fun j oj _ hl=>(by rw[getD_replicate_false] at hl;cases hl),fun t _ ht=>getD_in (by simpa using ht) (getD_replicate_false _ _)⟩
 have H:=wpAnyL_lex (md:=.any) (g:=l.toArray.size - k) hsel hs hch hn (l.take k) 0 _ a (fun j hj=>by
  have hj':j<k:=by rw[htl] at hj;exact hj
  simp[hj']) (by simpa using htl) inv0 (by rw[htl];exact hlex) h
 refine wpIn_region_any hm (wpAny_round hJ hc _ _ _ _ ?_)
 have:=wpAny_of_head (Q':=Plain J) (g:=l.toArray.size - k) (fun listed a' hL=>by
  have:=wpAny_of_seq (md:=.any) (Q':=Plain J) (l.drop k) k listed a' w.drew (fun j=>by simp[List.getElem?_drop]) (by rw[hdl];exact hL.1) hL.2
  rwa[hdl] at this) _ _ _ H
 rw[htl,show k+(l.toArray.size - k)=l.toArray.size by omega] at this
 exact this
end
section
open Go.RowKit Go.Shelf
attribute [local go_sem] Oper.semAt_some
def valN (l:List Sg) (x:Int) (i:Nat):Int:=match l[i]? with
 |some s=>(x / (prodS (l.take i))).tmod s.size
 |none=>0
theorem valN_at {l:List Sg} {x:Int} {i:Nat} (h:i<l.length):valN l x i=(x / (prodS (l.take i))).tmod l[i].size:=by
 unfold valN;rw[List.getElem?_eq_getElem h]
theorem mem_upF {n k i:Nat} (h:i<n) (hk:i<k):(⟨i,h⟩:Fin n)∈upF n k:=by
 unfold upF
 rw[List.mem_filterMap]
 exact⟨i,List.mem_range.2 hk,by simp[h]⟩
theorem results177 {tmps:Array Value} {w:World} {g:Nat} {v:Value} (hp:tmps.getD 6 undef=.pointer (some ⟨g,0,none⟩)) (h0:w.cell? ⟨g,0,none⟩=some v):(results Tryz.f177 tmps).run Tryz.prog w=.ok v w:=by
 simp only[Array.getD_eq_getD_getElem?] at hp
 simp only[results,Tryz.f177]
 simp[asAddr,go_sem,h0,hp]
theorem new4 (w:World) (o0 o1 o2 o3:Obj):((((w.alloc o0).alloc o1).alloc o2).alloc o3).heap[w.heap.size]? =some o0∧((((w.alloc o0).alloc o1).alloc o2).alloc o3).heap[w.heap.size+1]? =some o1∧
  ((((w.alloc o0).alloc o1).alloc o2).alloc o3).heap[w.heap.size+1+1]? =some o2∧((((w.alloc o0).alloc o1).alloc o2).alloc o3).heap[w.heap.size+1+1+1]? =some o3∧
  ((((w.alloc o0).alloc o1).alloc o2).alloc o3).heap.size=w.heap.size+1+1+1+1∧Below w.heap.size w ((((w.alloc o0).alloc o1).alloc o2).alloc o3):=by
 have h:((((w.alloc o0).alloc o1).alloc o2).alloc o3).heap=(((w.heap.push o0).push o1).push o2).push o3:=rfl
 refine⟨?_,?_,?_,?_,?_,?_⟩
 ·rw[h];simp only[Array.getElem?_push,Array.size_push];(repeat rw[if_neg (by omega)]);simp
 ·rw[h];simp only[Array.getElem?_push,Array.size_push];(repeat rw[if_neg (by omega)]);simp
 ·rw[h];simp only[Array.getElem?_push,Array.size_push];(repeat rw[if_neg (by omega)]);simp
 ·rw[h];simp only[Array.getElem?_push,Array.size_push];(repeat rw[if_neg (by omega)]);simp
 ·rw[h];simp
 ·exact((((Below.refl _ w).alloc (Nat.le_refl _) _).alloc (by simp) _).alloc (by simp;omega) _).alloc (by simp;omega) _
set_option maxRecDepth 100000 in
set_option maxHeartbeats 4000000 in
theorem value177 {w:World} {v:Value} {l:List Sg} {x:Int} {i:Nat} (hv:SgV w v l) (hK:Keys w) (hva:validB l=true) (x0:0≤x) (x1:x<prodS l) (hi:i<l.length):
  CallsIn Fence.wide 3 Tryz.prog 177 #[v,.int .i64 x,.int .i64 (i:Int)] w fun e w'=>e=.returned (.int .i64 (valN l x i))∧Below w.heap.size w w':=by
 have HVV:=Lib.hid hv
 obtain⟨a,c,rfl,hl, -⟩:=hv
 have HK:=Lib.hid hK
 have HL:Hid (letN l=prodS l):=Lib.hid (by unfold letN;rw[hva];rfl)
 have HT:=Lib.hid (tame_of hva)
 have hpb:=HT.out.2.2 l.length (Nat.le_refl _)
 rw[List.take_length] at hpb
 have h6:=HT.out.1
 clear hK hva
 refine callsIn_of_wp_marks Tryz.func177 rfl trivial ?_ rfl
 simp only[Tryz.ntmps177,List.size_toArray,List.length_cons,List.length_nil,Nat.reduceAdd,Nat.reduceSub,Array.replicate_succ,Array.replicate_zero,List.push_toArray,List.append_toArray,List.nil_append,List.cons_append]
 gi_wp2
 obtain⟨k0,k1,k2,k3,ks,kB⟩:=new4 w (.cells #[.slice a l.length c] 45) (.cells #[.int .i64 x] 3) (.cells #[.int .i64 (i:Int)] 3) (.cells #[.int .i64 0] 3)
 generalize (((w.alloc (.cells #[.slice a l.length c] 45)).alloc (.cells #[.int .i64 x] 3)).alloc (.cells #[.int .i64 (i:Int)] 3)).alloc (.cells #[.int .i64 0] 3)=W1 at*
 generalize hn:w.heap.size=n at*
 have HLT:=Lib.hid (letters66 (w:=W1.drewN 1) (HVV.out.keep (below_drawn (hn▸kB) 1)) (HK.out.keep (below_drawn (hn▸kB) 1)))
 have c0:=(cell_one k0).1
 have c1:=(cell_one k1).1
 have c2:=(cell_one k2).1
 have KK:=Lib.hid (And.intro k0 (And.intro k1 (And.intro k2 (And.intro k3 (And.intro ks kB)))))
 clear k0 k1 k2 k3 kB
 have d1:decide (x<0)=false:=by simpa using x0
 have d2:decide (letN l≤x)=false:=by rw[HL.out];simpa using x1
 have d3:decide ((i:Int)<0)=false:=by simp
 have d4:decide ((l.length:Int)≤(i:Int))=false:=by simpa using hi
 refine wpIn_wide.2 ?_
 go_wp2_with fail
 go_region_held3 (fun w'=>w'.cell? ⟨n,0,none⟩=some (.slice a l.length c)∧w'.cell? ⟨n+1,0,none⟩=some (.int .i64 x)∧w'.cell? ⟨n+1+1,0,none⟩=some (.int .i64 (i:Int))) (go_keep)
  (first|(go_at_call 66;refine HLT.out.mono ?_;rintro e' w4 ⟨rfl,hB4⟩;have y0:=(hB4.cell (p:=⟨n,0,none⟩) (show n<W1.heap.size by omega)).trans c0;have y1:=(hB4.cell (p:=⟨n+1,0,none⟩) (show n+1<W1.heap.size by omega)).trans c1;have y2:=(hB4.cell (p:=⟨n+1+1,0,none⟩) (show n+1+1<W1.heap.size by omega)).trans c2))
 have HB4:Hid (Below n w w4):=Lib.hid ((below_drawn (hn▸KK.out.2.2.2.2.2) 1).trans (hB4.mono (by show n≤W1.heap.size;omega)))
 have m0:=(hB4.block n (by show n<W1.heap.size;omega)).trans KK.out.1
 have m1:=(hB4.block (n+1) (by show n+1<W1.heap.size;omega)).trans KK.out.2.1
 have m2:=(hB4.block (n+1+1) (by show n+1+1<W1.heap.size;omega)).trans KK.out.2.2.1
 have m3:=(hB4.block (n+1+1+1) (by show n+1+1+1<W1.heap.size;omega)).trans KK.out.2.2.2.1
 have ms:n+1+1+1+1≤w4.heap.size:=by have:=hB4.size;have e:(W1.drewN 1).heap.size=W1.heap.size:=rfl;omega
 have d5:decide (l.length≤i)=false:=by simpa using hi
 clear c0 c1 c2 y1 y2 hB4 KK ks
 gi_wp2
 refine⟨trivial,(callsIn_wide.2 (weights143 _ a l.length c)).mono ?_⟩
 rintro e W3 ⟨rfl,rfl⟩
 gi_wp2
 obtain⟨W5,hW5⟩:∃W5,W5=w4.alloc (.cells #[.slice a l.length c] 45):=⟨_,rfl⟩
 have hs5:W5.heap.size=w4.heap.size+1:=by rw[hW5,World.size_alloc]
 have hB5:Below w4.heap.size w4 W5:=by rw[hW5];exact(Below.refl _ _).alloc (Nat.le_refl _) _
 have hb5:W5.heap[w4.heap.size]? =some (.cells #[.slice a l.length c] 45 (0,0)):=by rw[hW5];exact World.alloc_heap_new _ _
 have HB5:Hid (Below n w W5):=Lib.hid (HB4.out.trans (hB5.mono (by omega)))
 have HV5:=Lib.hid (HVV.out.keep (hn▸HB5.out))
 rw[←hW5]
 clear hW5
 generalize hnb:w4.heap.size=nb at*
 generalize hrb:n+1+1+1=rb at*
 have HBB:Hid (∀b o,a=some ⟨b,o,none⟩→b<nb+1∧only rb b=false):=Lib.hid (fun b o e=>by
  obtain⟨a',c',he, -,hv⟩:=HVV.out
  obtain⟨rfl, -,rfl⟩:a=a'∧l.length=l.length∧c=c':=by simpa using he
  obtain⟨b',o',e',hb', -⟩:=hv (fun e=>by rw[e] at hi;simp at hi)
  rw[e] at e'
  simp only[Option.some.injEq,Addr.mk.injEq] at e'
  refine⟨by omega,by simp only[only];simp;omega⟩)
 have HM:Hid (W5.heap[n]? =some (.cells #[.slice a l.length c] 45 (0,0))∧W5.heap[n+1]? =some (.cells #[.int .i64 x] 3 (0,0))∧W5.heap[n+1+1]? =some (.cells #[.int .i64 (i:Int)] 3 (0,0))∧W5.heap[rb]? =some (.cells #[.int .i64 0] 3 (0,0))∧W5.heap[nb]? =some (.cells #[.slice a l.length c] 45 (0,0))):=Lib.hid
  ⟨(hB5.block _ (by omega)).trans m0,(hB5.block _ (by omega)).trans m1,(hB5.block _ (by omega)).trans m2,(hB5.block _ (by omega)).trans m3,hb5⟩
 have q0:only rb n=false:=by simp only[only];simp;omega
 have q1:only rb (n+1)=false:=by simp only[only];simp;omega
 have q2:only rb (n+1+1)=false:=by simp only[only];simp;omega
 clear m0 m1 m2 m3 hb5 hB5
 refine wpIn_rangeFunc_ownF (w:=W5) rfl (by omega) (gf:=218) (lb:= #[.pointer (some ⟨nb,0,none⟩)]) rfl trivial (enters_of Tryz.func218 (by kernel_rfl) rfl)
   (weights_stops Fence.wide 2 trivial rfl (by omega) nb (nb+1) (only rb) a c l HT.out W5 ⟨by omega,by simp only[only];simp;omega⟩ (by omega) (cell_one HM.out.2.2.2.2).1 HBB.out HV5.out)
   (fun h k=>h.trans k)
   (fun W y o o' h1 h2 _ _=>(Fr.refl _ _ W).grown (grownBy_putObj' W y o') (by have:=(Array.getElem?_eq_some_iff.1 h2).1;omega) (fun k e=>by cases e;exact .inr (by omega)))
   (Below.refl _ _) (fun _=>rfl)
   (fun pre W=>(∀y∈pre,y.1≠i)∧W.heap[rb]? =some (.cells #[.int .i64 0] 3 (0,0))∧Fr (only rb) (nb+1) W5 W)
   (fun c pre W=>c=.ret∧W.heap[rb]? =some (.cells #[.int .i64 (valN l x i)] 3 (0,0))∧Fr (only rb) (nb+1) W5 W)
   (fun s A B row ⟨h0,h1,h2⟩ hg hr=>⟨h0,(hg.block rb (Array.getElem?_eq_some_iff.1 h1).1 (fun e=>by have:=(hr rb e.symm).1;omega)).trans h1,h2.grown hg (by have:=h2.size;omega) (fun k e=>.inr (by have:=(hr k e).1;omega))⟩)
   (fun c s A B row ⟨h0,h1,h2⟩ hg hr=>⟨h0,(hg.block rb (Array.getElem?_eq_some_iff.1 h1).1 (fun e=>by have:=(hr rb e.symm).1;omega)).trans h1,h2.grown hg (by have:=h2.size;omega) (fun k e=>.inr (by have:=(hr k e).1;omega))⟩)
   ⟨fun _ h=>(by cases h),HM.out.2.2.2.1,Fr.refl _ _ _⟩
   (fun y=> {tmps:= #[.slice a l.length c,.int .i64 x,.int .i64 (i:Int),.pointer (some ⟨n,0,none⟩),.pointer (some ⟨n+1,0,none⟩),.pointer (some ⟨n+1+1,0,none⟩),.pointer (some ⟨rb,0,none⟩),.int .i64 (y.1:Int),.int .i64 (prodS (l.take y.1)),.int .i64 x,.bool false,.bool false,.int .i64 x,.slice a l.length c,.int .i64 (letN l),.bool false,.bool false,.bool false,.int .i64 (i:Int),.bool false,.bool false,.bool false,.int .i64 (i:Int),.slice a l.length c,.int .i64 (l.length:Int),.bool false,.bool false,.slice a l.length c,.func (.func 218) #[] #[.pointer (some ⟨nb,0,none⟩)],.int .i64 (y.1:Int),.int .i64 (prodS (l.take y.1)),undef,undef,undef,undef,undef,undef,undef,undef,undef,undef,undef,undef],defers:=[]}) ?assign ?body ?done ?stop
 case assign=>
  intro y z W K hK
  unfold encW
  gi_wp2
  exact hK
 case body=>
  rintro y pre ⟨z,hzl⟩ W ⟨hne,hr0,hF⟩ hlen
  have hmx:Tryz.prog.follows .mixedOrders=true:=by kernel_rfl
  have t2:W.cell? ⟨n+1+1,0,none⟩=some (.int .i64 (i:Int)):=(hF.cell (a:=⟨n+1+1,0,none⟩) (by show n+1+1<nb+1;omega) q2).trans (cell_one HM.out.2.2.1).1
  have HX:=Lib.hid (And.intro hr0 hF)
  dsimp only
  by_cases hz:z=i
  ·have hzb:((z:Int)==(i:Int))=true:=by rw[hz];simp
   have t0:W.cell? ⟨n,0,none⟩=some (.slice a l.length c):=(hF.cell (a:=⟨n,0,none⟩) (by show n<nb+1;omega) q0).trans (cell_one HM.out.1).1
   have t1:W.cell? ⟨n+1,0,none⟩=some (.int .i64 x):=(hF.cell (a:=⟨n+1,0,none⟩) (by show n+1<nb+1;omega) q1).trans (cell_one HM.out.2.1).1
   have n0:=(cell_one hr0).1
   have nf:=(cell_one hr0).2
   obtain⟨a',c',he, -,hv⟩:=HVV.out
   obtain⟨rfl, -,rfl⟩:a=a'∧l.length=l.length∧c=c':=by simpa using he
   obtain⟨b1,o1,rfl,hb1,hc⟩:=hv (fun e=>by rw[e] at hi;simp at hi)
   obtain⟨-, -,s2, -⟩:=hc i hi
   have hbb:=HBB.out b1 o1 rfl
   have g2:=(hF.cell (a:=⟨b1,o1+i*3+2,none⟩) hbb.1 hbb.2).trans ((HB5.out.cell (p:=⟨b1,o1+i*3+2,none⟩) (by show b1<n;omega)).trans s2)
   have HVN:=Lib.hid (valN_at (x:=x) hi)
   have hp:=HT.out.2.2 i (by omega)
   have hsz:=HT.out.2.1 _ (List.getElem_mem hi)
   clear hr0 hF he hv hc s2 hne
   subst hz
   generalize l[z]=s at*
   generalize prodS (l.take z)=P at*
   have e0:¬P=0:=by omega
   have e1:¬s.size=0:=by omega
   gi_wp2
   refine round_still_tail 9 hmx (by kernel_rfl) (by kernel_rfl) (fun _ _ h=>h) ?_
   simp only[List.take_succ_cons,List.take_zero,List.drop_succ_cons,List.drop_zero]
   repeat still_step
   try refine wpStill_nil ?_
   have hq:IntKind.i64.wrap (x.tdiv P)=x / P:=by
    rw[Int.tdiv_eq_ediv_of_nonneg x0,IntKind.wrap_i64]
    have h1:0≤x / P:=Int.ediv_nonneg x0 (by omega)
    have h2:x / P≤x:=Int.ediv_le_self P x0
    omega
   rw[hq]
   have hr1:=heap_setCell_same W.drew rb 0 _ 3 (.int .i64 ((x / P).tmod s.size)) HX.out.1
   have HR1:=Lib.hid hr1
   have HR2:=Lib.hid ((HX.out.2.drawn 1).setCell (a:=⟨rb,0,none⟩) (.inl (by simp[only])) (.int .i64 ((x / P).tmod s.size)))
   have HR3:Hid (KeepsOthers W (W.drew.setCell ⟨rb,0,none⟩ (.int .i64 ((x / P).tmod s.size)))):=Lib.hid ((KeepsOthers.drew _).trans (KeepsOthers.setCell _ _ _))
   have n0:W.drew.cell? ⟨rb,0,none⟩=some (.int .i64 0):=n0
   have nf:W.drew.frozen? ⟨rb,0,none⟩=false:=nf
   clear hr1 t0 t1 t2 g2
   go_wp2_with fail
   refine Plain.to ?_
   gi_wp2
   exact⟨HR3.out,rfl,by rw[HVN.out];exact HR1.out,HR2.out⟩
  ·have hzb:((z:Int)==(i:Int))=false:=by simp;omega
   gi_wp2
   exact⟨KeepsOthers.refl _,Fr.refl _ _ _,fun y hy=>by
    rcases List.mem_append.1 hy with h|h
    ·exact hne y h
    ·simp at h;subst h;exact hz,HX.out⟩
 case done=>
  rintro D ys W hD rfl ⟨hne,hn,hF⟩ hK
  exact absurd rfl (hne ⟨i,hi⟩ (mem_upF hi hi))
 case stop=>
  rintro D c pre W hD _ ⟨rfl,hr,hF⟩ hK
  have hne:rb≠D:=fun e=>by subst e;omega
  have hr2:(W.putObj D (.deferred none)).heap[rb]? =some (.cells #[.int .i64 (valN l x i)] 3 (0,0)):=(World.putObj_heap_other hne).trans hr
  have HB:=Lib.hid ((below_fr2 HB5.out hF (by omega) (by omega)).grown (grownBy_putObj' W D (.deferred none)) (by have:=hF.size;have:=HB5.out.size;omega) (fun k e=>by cases e;have:=HB5.out.size;omega))
  gi_wp2
  refine⟨by simp,.inl ⟨_,_,rfl,run_takeDeferred hK,?_⟩⟩
  exact⟨_,results177 rfl (cell_one hr2).1,rfl,by first|exact HB.out|exact hn▸HB.out⟩
end
end Go.Proofs.YtckdgniecdfedaaGreatDoor
