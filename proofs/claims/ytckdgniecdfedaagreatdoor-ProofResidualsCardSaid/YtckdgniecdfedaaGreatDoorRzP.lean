/- The references' functions on formulas: some answer is handed back. The references' functions on formulas and signals: some answer is handed back. The references' Valid and Right: some answer is handed -/
import Derived.Test.YtckdgniecdfedaaGreatDoorRzO
namespace Go.Proofs.YtckdgniecdfedaaGreatDoor
section
open Go.RowKit
def Counts (w:World) (op:Int) (e:Ending) (w':World):Prop:=∃(lo hi:Int) (ok:Bool),e=.returned (.tuple #[.int .i64 lo,.int .i64 hi,.bool ok])∧(op=4→lo=1)∧w'=w
set_option maxRecDepth 100000 in
set_option maxHeartbeats 8000000 in
theorem count248 (w:World) (op:Int):Calls Tryz.prog 248 #[.int .i64 op] w (Counts w op):=by
 go_enter Tryz.func248,Tryz.ntmps248
 go_wp2_with fail
 all_goals
  refine bodyPost_ret (results_tmp3 rfl _ _ _) rfl ?_
  exact⟨_,_,_,rfl,fun h=>by first|rfl|(exfalso;simp_all),rfl⟩
set_option maxRecDepth 100000 in
set_option maxHeartbeats 8000000 in
theorem name249 {w:World} {s:ByteArray} (hs:s.size≤9223372036854775807):Calls Tryz.prog 249 #[.string s] w (SomeB w):=by
 by_cases h1:(s.size:Int)<1
 ·have hd1:decide ((s.size:Int)<1)=true:=by simpa using h1
  go_enter Tryz.func249,Tryz.ntmps249
  go_wp2_with fail
  go_ret
  exact⟨_,rfl,Below.refl _ _⟩
 ·have hd1:decide ((s.size:Int)<1)=false:=by simpa using h1
  by_cases h2:(12:Int)<s.size
  ·have hd2:decide ((12:Int)<s.size)=true:=by simpa using h2
   go_enter Tryz.func249,Tryz.ntmps249
   go_wp2_with fail
   go_ret
   exact⟨_,rfl,Below.refl _ _⟩
  ·have hd2:decide ((12:Int)<s.size)=false:=by simpa using h2
   have h0:0<s.size:=by omega
   go_enter Tryz.func249,Tryz.ntmps249
   go_upto_region 4 with fail
   any_goals (go_ret;exact⟨_,rfl,Below.refl _ _⟩)
   go_loopw [3] (fun i wr=>∃k:Nat,k≤s.size∧i=.int .i64 k∧wr=w) (fun i _=>s.size - (intOf i).toNat)
   case atStart=>exact⟨0,Nat.zero_le _,rfl,rfl⟩
   case round=>
    obtain⟨k,hk,rfl,rfl⟩:=hrel
    by_cases hlt:(k:Int)<(s.size:Int)
    ·have hd:decide ((k:Int)<(s.size:Int))=true:=by simpa using hlt
     have hk':k<s.size:=by omega
     go_wp2_with fail
     all_goals first
      |(go_ret
        exact⟨_,rfl,Below.refl _ _⟩)
      |(go_roundw
        case rel=>exact⟨k+1,by omega,by go_num,trivial⟩
        case measure=>simp[intOf];omega)
    ·have hd:decide ((k:Int)<(s.size:Int))=false:=by simpa using hlt
     go_wp2_with fail
     refine(keys303 wr).mono ?_
     rintro e w1 ⟨b,rfl,hB1,hb,hk⟩
     have HK:=Lib.hid hk
     have HB1:=Lib.hid hB1
     clear hB1 hk hb
     go_wp2_with fail
     go_loopw [5] (fun i wr=>∃k:Nat,k≤10∧i=.int .i64 k∧wr=w1) (fun i _=>10 - (intOf i).toNat)
     case atStart=>exact⟨0,by omega,rfl,rfl⟩
     case round=>
      obtain⟨k,hk,rfl,rfl⟩:=hrel
      by_cases hlt:(k:Int)<10
      ·have hd:decide ((k:Int)<10)=true:=by simpa using hlt
       obtain⟨t,ht⟩:=HK.out k (by omega)
       by_cases he:t=s
       ·have hb:(t.toList==s.toList)=true:=by rw[he];simp
        go_wp2_with fail
        go_ret
        exact⟨_,rfl,HB1.out⟩
       ·have hb:(t.toList==s.toList)=false:=bytes_ne he
        go_wp2_with fail
        go_roundw
        case rel=>exact⟨k+1,by omega,by go_num,trivial⟩
        case measure=>simp[intOf];omega
      ·have hd:decide ((k:Int)<10)=false:=by simpa using hlt
       go_wp2_with fail
       go_ret
       exact⟨_,rfl,HB1.out⟩
def Fs.nok:Fs→Prop
 | .nil=>True
 | .cons op _ _ _ a r=>(op=4→1≤a.len)∧a.nok∧r.nok
theorem Fs.nok_step {f:Fs} {k:Nat} {op v bd:Int} {nm:ByteArray} {a r:Fs} (e:f.drop k=.cons op nm v bd a r) (h:(f.drop k).nok→f.nok) (h4:op=4→1≤a.len) (ha:a.nok):(f.drop (k+1)).nok→f.nok:=fun hr=>h (by
 rw[Fs.drop_succ e] at hr
 rw[e]
 exact⟨h4,ha,hr⟩)
theorem Fs.drop_end {f:Fs} {k:Nat} (h:f.len≤k):f.drop k=.nil:=by
 have hdl:=Fs.drop_len f k
 cases hfd:f.drop k with
 |nil=>rfl
 |cons=>rw[hfd] at hdl;simp[Fs.len] at hdl;omega
def ToldN (w:World) (Q:Prop) (e:Ending) (w':World):Prop:=∃c:Bool,e=.returned (.bool c)∧(c=true→Q)∧Below w.heap.size w w'
set_option maxRecDepth 100000 in
set_option maxHeartbeats 8000000 in
theorem node170 (f:Fs) (w:World) (op v bd:Int) (nm:ByteArray) (a:Option Addr) (c:Nat) (hn:nm.size≤9223372036854775807) (hl:f.len≤9223372036854775807):
  Calls Tryz.prog 170 #[.agg #[.int .i64 op,.string nm,.int .i64 v,.int .i64 bd,.slice a f.len c]] w (ToldN w (op=4→1≤f.len)):=by
 have d0:=cell_new w #[.int .i64 op,.string nm,.int .i64 v,.int .i64 bd,.slice a f.len c] 48 0
 have d1:=cell_new w #[.int .i64 op,.string nm,.int .i64 v,.int .i64 bd,.slice a f.len c] 48 1
 have d2:=cell_new w #[.int .i64 op,.string nm,.int .i64 v,.int .i64 bd,.slice a f.len c] 48 2
 have d3:=cell_new w #[.int .i64 op,.string nm,.int .i64 v,.int .i64 bd,.slice a f.len c] 48 3
 have d4:=cell_new w #[.int .i64 op,.string nm,.int .i64 v,.int .i64 bd,.slice a f.len c] 48 4
 simp only[List.getElem?_toArray,List.getElem?_cons_succ,List.getElem?_cons_zero] at d0 d1 d2 d3 d4
 have HB:Hid (Below w.heap.size w (w.alloc (.cells #[.int .i64 op,.string nm,.int .i64 v,.int .i64 bd,.slice a f.len c] 48))):=Lib.hid ((Below.refl _ _).alloc (Nat.le_refl _) _)
 have HZ:Hid ((w.alloc (.cells #[.int .i64 op,.string nm,.int .i64 v,.int .i64 bd,.slice a f.len c] 48)).heap.size=w.heap.size+1):=Lib.hid (by simp)
 go_enter Tryz.func170,Tryz.ntmps170
 go_upto_region 1 with fail
 generalize w.alloc (.cells #[.int .i64 op,.string nm,.int .i64 v,.int .i64 bd,.slice a f.len c] 48)=w1 at*
 go_wp2_with fail
 refine(count248 w1 op).mono ?_
 rintro e w2 ⟨lo,hi,ok,rfl,h4,rfl⟩
 have HN:=Lib.hid hn
 have H4:=Lib.hid h4
 clear hn h4
 cases ok with
 |false=>
  go_wp2_with fail
  go_ret
  exact⟨_,rfl,fun h=>absurd h (by decide),HB.out⟩
 |true=>
  by_cases h1:(f.len:Int)<lo
  ·have hd1:decide ((f.len:Int)<lo)=true:=by simpa using h1
   go_wp2_with fail
   go_ret
   exact⟨_,rfl,fun h=>absurd h (by decide),HB.out⟩
  ·have hd1:decide ((f.len:Int)<lo)=false:=by simpa using h1
   have HQ:Hid (op=4→1≤f.len):=Lib.hid fun h=>by have:=H4.out h;omega
   by_cases h2:0≤hi∧hi<(f.len:Int)
   ·have hd2:decide ((0:Int)≤hi)=true:=by simpa using h2.1
    have hd3:decide (hi<(f.len:Int))=true:=by simpa using h2.2
    go_wp2_with fail
    go_ret
    exact⟨_,rfl,fun h=>absurd h (by decide),HB.out⟩
   ·by_cases h4:0≤hi
    ·have hd2:decide ((0:Int)≤hi)=true:=by simpa using h4
     have hd3:decide (hi<(f.len:Int))=false:=by simp;omega
     go_upto_region 4 with fail
     by_cases h3:op=3
     ·have hd4:decide (op=(3:Int))=true:=by simpa using h3
      have hd5:(op==(3:Int))=true:=by simpa using h3
      go_wp2_with fail
      refine(name249 (w:=w2) HN.out).mono ?_
      rintro e w3 ⟨b,rfl,hB3⟩
      have HB3:Hid (Below w.heap.size w w3):=Lib.hid (HB.out.trans (hB3.mono (by have:=HZ.out;omega)))
      have e2:=(hB3.cell (p:=⟨w.heap.size,2,none⟩) (by have:=HZ.out;show w.heap.size<_;omega)).trans d2
      have e3:=(hB3.cell (p:=⟨w.heap.size,3,none⟩) (by have:=HZ.out;show w.heap.size<_;omega)).trans d3
      clear hB3
      cases b
      all_goals go_wp2_with fail
      all_goals
       go_ret
       exact⟨_,rfl,by first|exact fun _=>HQ.out|trivial,HB3.out⟩
     ·have hd4:decide (op=(3:Int))=false:=by simpa using h3
      have hd5:(op==(3:Int))=false:=by simpa using h3
      go_upto_region 6 with fail
      obtain⟨b13,h13,g13⟩:∃b,decide (op=(13:Int))=b∧(op==(13:Int))=b:=⟨_,rfl,rfl⟩
      obtain⟨b14,h14,g14⟩:∃b,decide (op=(14:Int))=b∧(op==(14:Int))=b:=⟨_,rfl,rfl⟩
      obtain⟨b15,h15,g15⟩:∃b,decide (op=(15:Int))=b∧(op==(15:Int))=b:=⟨_,rfl,rfl⟩
      obtain⟨b16,h16,g16⟩:∃b,decide (op=(16:Int))=b∧(op==(16:Int))=b:=⟨_,rfl,rfl⟩
      obtain⟨b17,h17,g17⟩:∃b,decide (op=(17:Int))=b∧(op==(17:Int))=b:=⟨_,rfl,rfl⟩
      go_cut [6] from 56 to 63 (fun x wx=>(∃b:Bool,x=.bool b)∧wx=w2)
      case first=>
       go_wp2_with fail
       all_goals
        go_meet
        case rel=>exact⟨⟨_,rfl⟩,rfl⟩
      case rest=>
       obtain⟨⟨b6,rfl⟩,rfl⟩:=hcut
       go_upto_region 7 with fail
       go_cut [7] from 64 to 76 (fun x wx=>(∃b:Bool,x=.bool b)∧wx=wc)
       case first=>
        go_wp2_with fail
        all_goals
         go_meet
         case rel=>exact⟨⟨_,rfl⟩,rfl⟩
       case rest=>
        obtain⟨⟨b7,rfl⟩,rfl⟩:=hcut
        go_wp2_with fail
        all_goals
         go_ret
         exact⟨_,rfl,by first|exact fun _=>HQ.out|trivial,HB.out⟩
    ·have hd2:decide ((0:Int)≤hi)=false:=by simpa using h4
     go_upto_region 4 with fail
     by_cases h3:op=3
     ·have hd4:decide (op=(3:Int))=true:=by simpa using h3
      have hd5:(op==(3:Int))=true:=by simpa using h3
      go_wp2_with fail
      refine(name249 (w:=w2) HN.out).mono ?_
      rintro e w3 ⟨b,rfl,hB3⟩
      have HB3:Hid (Below w.heap.size w w3):=Lib.hid (HB.out.trans (hB3.mono (by have:=HZ.out;omega)))
      have e2:=(hB3.cell (p:=⟨w.heap.size,2,none⟩) (by have:=HZ.out;show w.heap.size<_;omega)).trans d2
      have e3:=(hB3.cell (p:=⟨w.heap.size,3,none⟩) (by have:=HZ.out;show w.heap.size<_;omega)).trans d3
      clear hB3
      cases b
      all_goals go_wp2_with fail
      all_goals
       go_ret
       exact⟨_,rfl,by first|exact fun _=>HQ.out|trivial,HB3.out⟩
     ·have hd4:decide (op=(3:Int))=false:=by simpa using h3
      have hd5:(op==(3:Int))=false:=by simpa using h3
      go_upto_region 6 with fail
      obtain⟨b13,h13,g13⟩:∃b,decide (op=(13:Int))=b∧(op==(13:Int))=b:=⟨_,rfl,rfl⟩
      obtain⟨b14,h14,g14⟩:∃b,decide (op=(14:Int))=b∧(op==(14:Int))=b:=⟨_,rfl,rfl⟩
      obtain⟨b15,h15,g15⟩:∃b,decide (op=(15:Int))=b∧(op==(15:Int))=b:=⟨_,rfl,rfl⟩
      obtain⟨b16,h16,g16⟩:∃b,decide (op=(16:Int))=b∧(op==(16:Int))=b:=⟨_,rfl,rfl⟩
      obtain⟨b17,h17,g17⟩:∃b,decide (op=(17:Int))=b∧(op==(17:Int))=b:=⟨_,rfl,rfl⟩
      go_cut [6] from 56 to 63 (fun x wx=>(∃b:Bool,x=.bool b)∧wx=w2)
      case first=>
       go_wp2_with fail
       all_goals
        go_meet
        case rel=>exact⟨⟨_,rfl⟩,rfl⟩
      case rest=>
       obtain⟨⟨b6,rfl⟩,rfl⟩:=hcut
       go_upto_region 7 with fail
       go_cut [7] from 64 to 76 (fun x wx=>(∃b:Bool,x=.bool b)∧wx=wc)
       case first=>
        go_wp2_with fail
        all_goals
         go_meet
         case rel=>exact⟨⟨_,rfl⟩,rfl⟩
       case rest=>
        obtain⟨⟨b7,rfl⟩,rfl⟩:=hcut
        go_wp2_with fail
        all_goals
         go_ret
         exact⟨_,rfl,by first|exact fun _=>HQ.out|trivial,HB.out⟩
set_option maxRecDepth 100000 in
set_option maxHeartbeats 8000000 in
theorem nodes121:∀(N:Nat) (f:Fs),f.nodes<N→∀(w:World) (op v bd:Int) (nm:ByteArray) (a:Option Addr) (c:Nat),nm.size≤9223372036854775807→f.len≤9223372036854775807→FArgs w a f→
  Calls Tryz.prog 121 #[.agg #[.int .i64 op,.string nm,.int .i64 v,.int .i64 bd,.slice a f.len c]] w (ToldN w ((op=4→1≤f.len)∧f.nok)):=by
 intro N
 induction N with
 |zero=>
  intro f hf
  omega
 |succ N ih=>
  intro f hf w op v bd nm a c hn hl hv
  have HV:=Lib.hid hv
  have HN:=Lib.hid hn
  have HI:=Lib.hid ih
  clear hv ih hn
  have d0:=cell_new w #[.int .i64 op,.string nm,.int .i64 v,.int .i64 bd,.slice a f.len c] 48 0
  have d1:=cell_new w #[.int .i64 op,.string nm,.int .i64 v,.int .i64 bd,.slice a f.len c] 48 1
  have d2:=cell_new w #[.int .i64 op,.string nm,.int .i64 v,.int .i64 bd,.slice a f.len c] 48 2
  have d3:=cell_new w #[.int .i64 op,.string nm,.int .i64 v,.int .i64 bd,.slice a f.len c] 48 3
  have d4:=cell_new w #[.int .i64 op,.string nm,.int .i64 v,.int .i64 bd,.slice a f.len c] 48 4
  simp only[List.getElem?_toArray,List.getElem?_cons_succ,List.getElem?_cons_zero] at d0 d1 d2 d3 d4
  have HB:Hid (Below w.heap.size w (w.alloc (.cells #[.int .i64 op,.string nm,.int .i64 v,.int .i64 bd,.slice a f.len c] 48))):=Lib.hid ((Below.refl _ _).alloc (Nat.le_refl _) _)
  have HZ:Hid ((w.alloc (.cells #[.int .i64 op,.string nm,.int .i64 v,.int .i64 bd,.slice a f.len c] 48)).heap.size=w.heap.size+1):=Lib.hid (by simp)
  go_enter Tryz.func121,Tryz.ntmps121
  go_upto_region 1 with fail
  generalize w.alloc (.cells #[.int .i64 op,.string nm,.int .i64 v,.int .i64 bd,.slice a f.len c] 48)=w1 at*
  go_wp2_with fail
  refine(node170 f w1 op v bd nm a c HN.out hl).mono ?_
  rintro e w2 ⟨q,rfl,hq,hB2⟩
  have HQ:=Lib.hid hq
  have HB2:Hid (Below (w.heap.size+1) w1 w2):=Lib.hid (hB2.mono (by have:=HZ.out;omega))
  clear hq hB2
  cases q with
  |false=>
   go_wp2_with fail
   go_ret
   exact⟨_,rfl,fun h=>absurd h (by decide),HB.out.trans (HB2.out.mono (by omega))⟩
  |true=>
   go_upto_region 4 with fail
   go_loopw [3] (fun i wr=>∃k:Nat,k≤f.len∧i=.int .i64 k∧Hid ((f.drop k).nok→f.nok)∧Below (w.heap.size+1) w1 wr) (fun i _=>f.len - (intOf i).toNat)
   case atStart=>exact⟨0,Nat.zero_le _,rfl,Lib.hid (fun h=>by simpa[Fs.drop] using h),HB2.out⟩
   case round=>
    obtain⟨k,hk,rfl,HK,hB⟩:=hrel
    have e0:=(hB.cell (p:=⟨w.heap.size,0,none⟩) (by show w.heap.size<w.heap.size+1;omega)).trans d0
    have e4:=(hB.cell (p:=⟨w.heap.size,4,none⟩) (by show w.heap.size<w.heap.size+1;omega)).trans d4
    have HR:=Lib.hid hB
    clear hB
    by_cases hlt:k<f.len
    ·have hd:decide (k<f.len)=true:=by simpa using hlt
     have HW2:Hid (Below w.heap.size w wr):=Lib.hid (HB.out.trans (HR.out.mono (by omega)))
     obtain⟨b1,o1,ha1,hb1,hat⟩:=HV.out (by omega)
     cases ha1
     have hat':=FAt.keep HW2.out hb1 (FAt.drop k hat)
     have hdl:=Fs.drop_len f k
     cases hfd:f.drop k with
     |nil=>rw[hfd] at hdl;simp[Fs.len] at hdl;omega
     |cons op' nm' v' bd' sub rest=>
      rw[hfd] at hat'
      have hdn:=Fs.drop_nodes f k
      rw[hfd] at hdn
      obtain⟨c0,c1,c2,c3,c4,c5,⟨a',c',c6, -,c7⟩, -⟩:=hat'
      have HE:=Lib.hid hfd
      have HC:=Lib.hid (HI.out sub (by simp only[Fs.nodes] at hdn;omega) wr op' v' bd' nm' a' c' c2 c5 c7)
      clear hat hfd c7 hdl hdn
      go_wp2_with fail
      refine HC.out.mono ?_
      rintro e w3 ⟨q',rfl,hq',hB3⟩
      have HB3:Hid (Below (w.heap.size+1) w1 w3):=Lib.hid (HR.out.trans (hB3.mono (by have:=HR.out.size;have:=HZ.out;omega)))
      have HQ3:=Lib.hid hq'
      clear hB3 hq' c0 c1 c2 c3 c4 c6
      cases q' with
      |false=>
       go_wp2_with fail
       go_ret
       exact⟨_,rfl,fun h=>absurd h (by decide),HB.out.trans (HB3.out.mono (by omega))⟩
      |true=>
       go_wp2_with fail
       go_roundw
       case rel=>exact⟨k+1,by omega,by go_num,Lib.hid (Fs.nok_step HE.out HK.out (HQ3.out (by simp)).1 (HQ3.out (by simp)).2),HB3.out⟩
       case measure=>simp[intOf];omega
    ·have hd:decide (k<f.len)=false:=by simpa using hlt
     have HF:Hid (f.drop k=.nil):=Lib.hid (Fs.drop_end (by omega))
     go_wp2_with fail
     go_ret
     exact⟨_,rfl,fun _=>⟨HQ.out (by simp),HK.out (by rw[HF.out];trivial)⟩,HB.out.trans (HR.out.mono (by omega))⟩
set_option maxRecDepth 100000 in
set_option maxHeartbeats 8000000 in
theorem past171:∀(N:Nat) (f:Fs),f.nodes<N→∀(w:World) (op v bd:Int) (nm:ByteArray) (a:Option Addr) (c:Nat),nm.size≤9223372036854775807→f.len≤9223372036854775807→FArgs w a f→
  Calls Tryz.prog 171 #[.agg #[.int .i64 op,.string nm,.int .i64 v,.int .i64 bd,.slice a f.len c]] w (SomeB w):=by
 intro N
 induction N with
 |zero=>
  intro f hf
  omega
 |succ N ih=>
  intro f hf w op v bd nm a c hn hl hv
  have HV:=Lib.hid hv
  have HN:=Lib.hid hn
  have HI:=Lib.hid ih
  clear hv ih hn
  have d0:=cell_new w #[.int .i64 op,.string nm,.int .i64 v,.int .i64 bd,.slice a f.len c] 48 0
  have d1:=cell_new w #[.int .i64 op,.string nm,.int .i64 v,.int .i64 bd,.slice a f.len c] 48 1
  have d2:=cell_new w #[.int .i64 op,.string nm,.int .i64 v,.int .i64 bd,.slice a f.len c] 48 2
  have d3:=cell_new w #[.int .i64 op,.string nm,.int .i64 v,.int .i64 bd,.slice a f.len c] 48 3
  have d4:=cell_new w #[.int .i64 op,.string nm,.int .i64 v,.int .i64 bd,.slice a f.len c] 48 4
  simp only[List.getElem?_toArray,List.getElem?_cons_succ,List.getElem?_cons_zero] at d0 d1 d2 d3 d4
  have HB:Hid (Below w.heap.size w (w.alloc (.cells #[.int .i64 op,.string nm,.int .i64 v,.int .i64 bd,.slice a f.len c] 48))):=Lib.hid ((Below.refl _ _).alloc (Nat.le_refl _) _)
  have HZ:Hid ((w.alloc (.cells #[.int .i64 op,.string nm,.int .i64 v,.int .i64 bd,.slice a f.len c] 48)).heap.size=w.heap.size+1):=Lib.hid (by simp)
  go_enter Tryz.func171,Tryz.ntmps171
  go_upto_region 1 with fail
  generalize w.alloc (.cells #[.int .i64 op,.string nm,.int .i64 v,.int .i64 bd,.slice a f.len c] 48)=w1 at*
  by_cases h1:8≤op
  ·have hd1:decide ((8:Int)≤op)=true:=by simpa using h1
   by_cases h2:op≤14
   ·have hd2:decide (op≤(14:Int))=true:=by simpa using h2
    go_wp2_with fail
    go_ret
    exact⟨_,rfl,HB.out⟩
   ·have hd2:decide (op≤(14:Int))=false:=by simpa using h2
    go_upto_region 4 with fail
    go_loopw [3] (fun i wr=>∃k:Nat,k≤f.len∧i=.int .i64 k∧Below (w.heap.size+1) w1 wr) (fun i _=>f.len - (intOf i).toNat)
    case atStart=>exact⟨0,Nat.zero_le _,rfl,Below.refl _ _⟩
    case round=>
     obtain⟨k,hk,rfl,hB⟩:=hrel
     have e0:=(hB.cell (p:=⟨w.heap.size,0,none⟩) (by show w.heap.size<w.heap.size+1;omega)).trans d0
     have e4:=(hB.cell (p:=⟨w.heap.size,4,none⟩) (by show w.heap.size<w.heap.size+1;omega)).trans d4
     have HR:=Lib.hid hB
     clear hB
     by_cases hlt:k<f.len
     ·have hd:decide (k<f.len)=true:=by simpa using hlt
      have HW2:Hid (Below w.heap.size w wr):=Lib.hid (HB.out.trans (HR.out.mono (by omega)))
      obtain⟨b1,o1,ha1,hb1,hat⟩:=HV.out (by omega)
      cases ha1
      have hat':=FAt.keep HW2.out hb1 (FAt.drop k hat)
      have hdl:=Fs.drop_len f k
      cases hfd:f.drop k with
      |nil=>rw[hfd] at hdl;simp[Fs.len] at hdl;omega
      |cons op' nm' v' bd' sub rest=>
       rw[hfd] at hat'
       have hdn:=Fs.drop_nodes f k
       rw[hfd] at hdn
       obtain⟨c0,c1,c2,c3,c4,c5,⟨a',c',c6, -,c7⟩, -⟩:=hat'
       have HE:=Lib.hid hfd
       have HC:=Lib.hid (HI.out sub (by simp only[Fs.nodes] at hdn;omega) wr op' v' bd' nm' a' c' c2 c5 c7)
       clear hat hfd c7 hdl hdn
       go_wp2_with fail
       refine HC.out.mono ?_
       rintro e w3 ⟨q',rfl,hB3⟩
       have HB3:Hid (Below (w.heap.size+1) w1 w3):=Lib.hid (HR.out.trans (hB3.mono (by have:=HR.out.size;have:=HZ.out;omega)))
       clear hB3 c0 c1 c2 c3 c4 c6
       cases q' with
       |false=>
        go_wp2_with fail
        go_ret
        exact⟨_,rfl,HB.out.trans (HB3.out.mono (by omega))⟩
       |true=>
        go_wp2_with fail
        go_roundw
        case rel=>exact⟨k+1,by omega,by go_num,HB3.out⟩
        case measure=>simp[intOf];omega
     ·have hd:decide (k<f.len)=false:=by simpa using hlt
      have HF:Hid (f.drop k=.nil):=Lib.hid (Fs.drop_end (by omega))
      go_wp2_with fail
      go_ret
      exact⟨_,rfl,HB.out.trans (HR.out.mono (by omega))⟩
  ·have hd1:decide ((8:Int)≤op)=false:=by simpa using h1
   go_upto_region 4 with fail
   go_loopw [3] (fun i wr=>∃k:Nat,k≤f.len∧i=.int .i64 k∧Below (w.heap.size+1) w1 wr) (fun i _=>f.len - (intOf i).toNat)
   case atStart=>exact⟨0,Nat.zero_le _,rfl,Below.refl _ _⟩
   case round=>
    obtain⟨k,hk,rfl,hB⟩:=hrel
    have e0:=(hB.cell (p:=⟨w.heap.size,0,none⟩) (by show w.heap.size<w.heap.size+1;omega)).trans d0
    have e4:=(hB.cell (p:=⟨w.heap.size,4,none⟩) (by show w.heap.size<w.heap.size+1;omega)).trans d4
    have HR:=Lib.hid hB
    clear hB
    by_cases hlt:k<f.len
    ·have hd:decide (k<f.len)=true:=by simpa using hlt
     have HW2:Hid (Below w.heap.size w wr):=Lib.hid (HB.out.trans (HR.out.mono (by omega)))
     obtain⟨b1,o1,ha1,hb1,hat⟩:=HV.out (by omega)
     cases ha1
     have hat':=FAt.keep HW2.out hb1 (FAt.drop k hat)
     have hdl:=Fs.drop_len f k
     cases hfd:f.drop k with
     |nil=>rw[hfd] at hdl;simp[Fs.len] at hdl;omega
     |cons op' nm' v' bd' sub rest=>
      rw[hfd] at hat'
      have hdn:=Fs.drop_nodes f k
      rw[hfd] at hdn
      obtain⟨c0,c1,c2,c3,c4,c5,⟨a',c',c6, -,c7⟩, -⟩:=hat'
      have HE:=Lib.hid hfd
      have HC:=Lib.hid (HI.out sub (by simp only[Fs.nodes] at hdn;omega) wr op' v' bd' nm' a' c' c2 c5 c7)
      clear hat hfd c7 hdl hdn
      go_wp2_with fail
      refine HC.out.mono ?_
      rintro e w3 ⟨q',rfl,hB3⟩
      have HB3:Hid (Below (w.heap.size+1) w1 w3):=Lib.hid (HR.out.trans (hB3.mono (by have:=HR.out.size;have:=HZ.out;omega)))
      clear hB3 c0 c1 c2 c3 c4 c6
      cases q' with
      |false=>
       go_wp2_with fail
       go_ret
       exact⟨_,rfl,HB.out.trans (HB3.out.mono (by omega))⟩
      |true=>
       go_wp2_with fail
       go_roundw
       case rel=>exact⟨k+1,by omega,by go_num,HB3.out⟩
       case measure=>simp[intOf];omega
    ·have hd:decide (k<f.len)=false:=by simpa using hlt
     have HF:Hid (f.drop k=.nil):=Lib.hid (Fs.drop_end (by omega))
     go_wp2_with fail
     go_ret
     exact⟨_,rfl,HB.out.trans (HR.out.mono (by omega))⟩
set_option maxRecDepth 100000 in
set_option maxHeartbeats 8000000 in
theorem core122:∀(N:Nat) (f:Fs),f.nodes<N→∀(w:World) (op v bd:Int) (nm:ByteArray) (a:Option Addr) (c:Nat),nm.size≤9223372036854775807→f.len≤9223372036854775807→FArgs w a f→(op=4→1≤f.len)→f.nok→
  Calls Tryz.prog 122 #[.agg #[.int .i64 op,.string nm,.int .i64 v,.int .i64 bd,.slice a f.len c]] w (SomeB w):=by
 intro N
 induction N with
 |zero=>
  intro f hf
  omega
 |succ N ih=>
  intro f hf w op v bd nm a c hn hl hv h4 hnk
  have HV:=Lib.hid hv
  have HN:=Lib.hid hn
  have HI:=Lib.hid ih
  have H4:=Lib.hid h4
  have HNK:=Lib.hid hnk
  clear hv ih hn h4 hnk
  have d0:=cell_new w #[.int .i64 op,.string nm,.int .i64 v,.int .i64 bd,.slice a f.len c] 48 0
  have d1:=cell_new w #[.int .i64 op,.string nm,.int .i64 v,.int .i64 bd,.slice a f.len c] 48 1
  have d2:=cell_new w #[.int .i64 op,.string nm,.int .i64 v,.int .i64 bd,.slice a f.len c] 48 2
  have d3:=cell_new w #[.int .i64 op,.string nm,.int .i64 v,.int .i64 bd,.slice a f.len c] 48 3
  have d4:=cell_new w #[.int .i64 op,.string nm,.int .i64 v,.int .i64 bd,.slice a f.len c] 48 4
  simp only[List.getElem?_toArray,List.getElem?_cons_succ,List.getElem?_cons_zero] at d0 d1 d2 d3 d4
  have HB:Hid (Below w.heap.size w (w.alloc (.cells #[.int .i64 op,.string nm,.int .i64 v,.int .i64 bd,.slice a f.len c] 48))):=Lib.hid ((Below.refl _ _).alloc (Nat.le_refl _) _)
  have HZ:Hid ((w.alloc (.cells #[.int .i64 op,.string nm,.int .i64 v,.int .i64 bd,.slice a f.len c] 48)).heap.size=w.heap.size+1):=Lib.hid (by simp)
  go_enter Tryz.func122,Tryz.ntmps122
  go_upto_region 1 with fail
  generalize w.alloc (.cells #[.int .i64 op,.string nm,.int .i64 v,.int .i64 bd,.slice a f.len c] 48)=w1 at*
  obtain⟨b8,h8,g8⟩:∃b,decide (op=(8:Int))=b∧(op==(8:Int))=b:=⟨_,rfl,rfl⟩
  obtain⟨b9,h9,g9⟩:∃b,decide (op=(9:Int))=b∧(op==(9:Int))=b:=⟨_,rfl,rfl⟩
  obtain⟨b10,h10,g10⟩:∃b,decide (op=(10:Int))=b∧(op==(10:Int))=b:=⟨_,rfl,rfl⟩
  obtain⟨b15,h15,g15⟩:∃b,decide (op=(15:Int))=b∧(op==(15:Int))=b:=⟨_,rfl,rfl⟩
  obtain⟨b16,h16,g16⟩:∃b,decide (op=(16:Int))=b∧(op==(16:Int))=b:=⟨_,rfl,rfl⟩
  obtain⟨b17,h17,g17⟩:∃b,decide (op=(17:Int))=b∧(op==(17:Int))=b:=⟨_,rfl,rfl⟩
  obtain⟨l1,k1⟩:∃b,decide ((1:Int)≤op)=b:=⟨_,rfl⟩
  obtain⟨l6,k6⟩:∃b,decide (op≤(6:Int))=b:=⟨_,rfl⟩
  go_cut [3] from 5 to 42 (fun x wx=>(∃b:Bool,x=.bool b)∧wx=w1)
  case first=>
   go_wp2_with fail
   all_goals
    go_meet
    case rel=>exact⟨⟨_,rfl⟩,rfl⟩
  case rest=>
   obtain⟨⟨b3,rfl⟩,hw⟩:=hcut
   obtain rfl:=hw.symm
   clear hw
   clear h8 h9 h10 h15 h16 h17 g8 g9 g10 g15 g16 g17 k1 k6
   cases b3 with
   |false=>
    go_wp2_with fail
    go_ret
    exact⟨_,rfl,HB.out⟩
   |true=>
    by_cases h4:op=4
    ·have hd1:decide (op=(4:Int))=true:=by simpa using h4
     have hd2:(op==(4:Int))=true:=by simpa using h4
     have hl1:=H4.out h4
     obtain⟨b1,o1,rfl,hb1,hat⟩:=HV.out (by omega)
     have hat':=FAt.keep HB.out hb1 (FAt.drop 0 hat)
     have hdl:=Fs.drop_len f 0
     cases hfd:f.drop 0 with
     |nil=>rw[hfd] at hdl;simp[Fs.len] at hdl;omega
     |cons op' nm' v' bd' sub rest=>
      rw[hfd] at hat'
      have z0:=hat'.1
      simp only[Nat.zero_mul,Nat.add_zero] at z0
      clear hat hat' hfd hdl
      by_cases h3:op'=3
      ·have hd3:decide (op'=(3:Int))=true:=by simpa using h3
       have hd4:(op'==(3:Int))=true:=by simpa using h3
       have hd5:(op' !=(3:Int))=false:=by simpa using h3
       clear h3 h4
       go_upto_region 5 with fail
       go_loopw [4] (fun i wr=>∃k:Nat,k≤f.len∧i=.int .i64 k∧Hid (f.nok→(f.drop k).nok)∧Below (w.heap.size+1) w1 wr) (fun i _=>f.len - (intOf i).toNat)
       case atStart=>exact⟨0,Nat.zero_le _,rfl,Lib.hid (fun h=>by simpa[Fs.drop] using h),Below.refl _ _⟩
       case round=>
        obtain⟨k,hk,rfl,HK,hB⟩:=hrel
        have e0:=(hB.cell (p:=⟨w.heap.size,0,none⟩) (by show w.heap.size<w.heap.size+1;omega)).trans d0
        have e4:=(hB.cell (p:=⟨w.heap.size,4,none⟩) (by show w.heap.size<w.heap.size+1;omega)).trans d4
        have HR:=Lib.hid hB
        clear hB
        by_cases hlt:k<f.len
        ·have hd:decide (k<f.len)=true:=by simpa using hlt
         have HW2:Hid (Below w.heap.size w wr):=Lib.hid (HB.out.trans (HR.out.mono (by omega)))
         obtain⟨b1,o1,ha1,hb1,hat⟩:=HV.out (by omega)
         cases ha1
         have hat':=FAt.keep HW2.out hb1 (FAt.drop k hat)
         have hdl:=Fs.drop_len f k
         cases hfd:f.drop k with
         |nil=>rw[hfd] at hdl;simp[Fs.len] at hdl;omega
         |cons op' nm' v' bd' sub rest=>
          rw[hfd] at hat'
          have hdn:=Fs.drop_nodes f k
          rw[hfd] at hdn
          obtain⟨c0,c1,c2,c3,c4,c5,⟨a',c',c6, -,c7⟩, -⟩:=hat'
          have HE:=Lib.hid hfd
          have HS:Hid ((op'=4→1≤sub.len)∧sub.nok∧rest.nok):=Lib.hid (by
           have h:=HK.out HNK.out
           rw[hfd] at h
           exact h)
          have HC:=Lib.hid (HI.out sub (by simp only[Fs.nodes] at hdn;omega) wr op' v' bd' nm' a' c' c2 c5 c7 HS.out.1 HS.out.2.1)
          clear hat hfd c7 hdl hdn
          go_wp2_with fail
          refine HC.out.mono ?_
          rintro e w3 ⟨q',rfl,hB3⟩
          have HB3:Hid (Below (w.heap.size+1) w1 w3):=Lib.hid (HR.out.trans (hB3.mono (by have:=HR.out.size;have:=HZ.out;omega)))
          clear hB3 c0 c1 c2 c3 c4 c6
          cases q' with
          |false=>
           go_wp2_with fail
           go_ret
           exact⟨_,rfl,HB.out.trans (HB3.out.mono (by omega))⟩
          |true=>
           go_wp2_with fail
           go_roundw
           case rel=>exact⟨k+1,by omega,by go_num,Lib.hid (fun _=>by rw[Fs.drop_succ HE.out];exact HS.out.2.2),HB3.out⟩
           case measure=>simp[intOf];omega
        ·have hd:decide (k<f.len)=false:=by simpa using hlt
         have HF:Hid (f.drop k=.nil):=Lib.hid (Fs.drop_end (by omega))
         go_wp2_with fail
         go_ret
         exact⟨_,rfl,HB.out.trans (HR.out.mono (by omega))⟩
      ·have hd3:decide (op'=(3:Int))=false:=by simpa using h3
       have hd4:(op'==(3:Int))=false:=by simpa using h3
       have hd5:(op' !=(3:Int))=true:=by simpa using h3
       clear h3 h4
       go_wp2_with fail
       go_ret
       exact⟨_,rfl,HB.out⟩
    ·have hd1:decide (op=(4:Int))=false:=by simpa using h4
     have hd2:(op==(4:Int))=false:=by simpa using h4
     clear h4
     go_upto_region 5 with fail
     go_loopw [4] (fun i wr=>∃k:Nat,k≤f.len∧i=.int .i64 k∧Hid (f.nok→(f.drop k).nok)∧Below (w.heap.size+1) w1 wr) (fun i _=>f.len - (intOf i).toNat)
     case atStart=>exact⟨0,Nat.zero_le _,rfl,Lib.hid (fun h=>by simpa[Fs.drop] using h),Below.refl _ _⟩
     case round=>
      obtain⟨k,hk,rfl,HK,hB⟩:=hrel
      have e0:=(hB.cell (p:=⟨w.heap.size,0,none⟩) (by show w.heap.size<w.heap.size+1;omega)).trans d0
      have e4:=(hB.cell (p:=⟨w.heap.size,4,none⟩) (by show w.heap.size<w.heap.size+1;omega)).trans d4
      have HR:=Lib.hid hB
      clear hB
      by_cases hlt:k<f.len
      ·have hd:decide (k<f.len)=true:=by simpa using hlt
       have HW2:Hid (Below w.heap.size w wr):=Lib.hid (HB.out.trans (HR.out.mono (by omega)))
       obtain⟨b1,o1,ha1,hb1,hat⟩:=HV.out (by omega)
       cases ha1
       have hat':=FAt.keep HW2.out hb1 (FAt.drop k hat)
       have hdl:=Fs.drop_len f k
       cases hfd:f.drop k with
       |nil=>rw[hfd] at hdl;simp[Fs.len] at hdl;omega
       |cons op' nm' v' bd' sub rest=>
        rw[hfd] at hat'
        have hdn:=Fs.drop_nodes f k
        rw[hfd] at hdn
        obtain⟨c0,c1,c2,c3,c4,c5,⟨a',c',c6, -,c7⟩, -⟩:=hat'
        have HE:=Lib.hid hfd
        have HS:Hid ((op'=4→1≤sub.len)∧sub.nok∧rest.nok):=Lib.hid (by
         have h:=HK.out HNK.out
         rw[hfd] at h
         exact h)
        have HC:=Lib.hid (HI.out sub (by simp only[Fs.nodes] at hdn;omega) wr op' v' bd' nm' a' c' c2 c5 c7 HS.out.1 HS.out.2.1)
        clear hat hfd c7 hdl hdn
        go_wp2_with fail
        refine HC.out.mono ?_
        rintro e w3 ⟨q',rfl,hB3⟩
        have HB3:Hid (Below (w.heap.size+1) w1 w3):=Lib.hid (HR.out.trans (hB3.mono (by have:=HR.out.size;have:=HZ.out;omega)))
        clear hB3 c0 c1 c2 c3 c4 c6
        cases q' with
        |false=>
         go_wp2_with fail
         go_ret
         exact⟨_,rfl,HB.out.trans (HB3.out.mono (by omega))⟩
        |true=>
         go_wp2_with fail
         go_roundw
         case rel=>exact⟨k+1,by omega,by go_num,Lib.hid (fun _=>by rw[Fs.drop_succ HE.out];exact HS.out.2.2),HB3.out⟩
         case measure=>simp[intOf];omega
      ·have hd:decide (k<f.len)=false:=by simpa using hlt
       have HF:Hid (f.drop k=.nil):=Lib.hid (Fs.drop_end (by omega))
       go_wp2_with fail
       go_ret
       exact⟨_,rfl,HB.out.trans (HR.out.mono (by omega))⟩
end
section
open Go.RowKit
set_option maxRecDepth 100000 in
set_option maxHeartbeats 8000000 in
theorem layered123:∀(N:Nat) (f:Fs),f.nodes<N→∀(w:World) (op v bd:Int) (nm:ByteArray) (a:Option Addr) (c:Nat),nm.size≤9223372036854775807→f.len≤9223372036854775807→FArgs w a f→
  Calls Tryz.prog 123 #[.agg #[.int .i64 op,.string nm,.int .i64 v,.int .i64 bd,.slice a f.len c]] w (SomeB w):=by
 intro N
 induction N with
 |zero=>
  intro f hf
  omega
 |succ N ih=>
  intro f hf w op v bd nm a c hn hl hv
  have HV:=Lib.hid hv
  have HN:=Lib.hid hn
  have HI:=Lib.hid ih
  clear hv ih hn
  have d0:=cell_new w #[.int .i64 op,.string nm,.int .i64 v,.int .i64 bd,.slice a f.len c] 48 0
  have d1:=cell_new w #[.int .i64 op,.string nm,.int .i64 v,.int .i64 bd,.slice a f.len c] 48 1
  have d2:=cell_new w #[.int .i64 op,.string nm,.int .i64 v,.int .i64 bd,.slice a f.len c] 48 2
  have d3:=cell_new w #[.int .i64 op,.string nm,.int .i64 v,.int .i64 bd,.slice a f.len c] 48 3
  have d4:=cell_new w #[.int .i64 op,.string nm,.int .i64 v,.int .i64 bd,.slice a f.len c] 48 4
  simp only[List.getElem?_toArray,List.getElem?_cons_succ,List.getElem?_cons_zero] at d0 d1 d2 d3 d4
  have HB:Hid (Below w.heap.size w (w.alloc (.cells #[.int .i64 op,.string nm,.int .i64 v,.int .i64 bd,.slice a f.len c] 48))):=Lib.hid ((Below.refl _ _).alloc (Nat.le_refl _) _)
  have HZ:Hid ((w.alloc (.cells #[.int .i64 op,.string nm,.int .i64 v,.int .i64 bd,.slice a f.len c] 48)).heap.size=w.heap.size+1):=Lib.hid (by simp)
  go_enter Tryz.func123,Tryz.ntmps123
  go_upto_region 1 with fail
  generalize w.alloc (.cells #[.int .i64 op,.string nm,.int .i64 v,.int .i64 bd,.slice a f.len c] 48)=w1 at*
  go_upto_region 2 with fail
  go_loopw [3] (fun i wr=>∃k:Nat,k≤f.len∧i=.int .i64 k∧Below (w.heap.size+1) w1 wr) (fun i _=>f.len - (intOf i).toNat)
  case atStart=>exact⟨0,Nat.zero_le _,rfl,Below.refl _ _⟩
  case round=>
   obtain⟨k,hk,rfl,hB⟩:=hrel
   have e0:=(hB.cell (p:=⟨w.heap.size,0,none⟩) (by show w.heap.size<w.heap.size+1;omega)).trans d0
   have e4:=(hB.cell (p:=⟨w.heap.size,4,none⟩) (by show w.heap.size<w.heap.size+1;omega)).trans d4
   have HR:=Lib.hid hB
   clear hB
   by_cases hlt:k<f.len
   ·have hd:decide (k<f.len)=true:=by simpa using hlt
    have HW2:Hid (Below w.heap.size w wr):=Lib.hid (HB.out.trans (HR.out.mono (by omega)))
    obtain⟨b1,o1,ha1,hb1,hat⟩:=HV.out (by omega)
    cases ha1
    have hat':=FAt.keep HW2.out hb1 (FAt.drop k hat)
    have hdl:=Fs.drop_len f k
    cases hfd:f.drop k with
    |nil=>rw[hfd] at hdl;simp[Fs.len] at hdl;omega
    |cons op' nm' v' bd' sub rest=>
     rw[hfd] at hat'
     have hdn:=Fs.drop_nodes f k
     rw[hfd] at hdn
     obtain⟨c0,c1,c2,c3,c4,c5,⟨a',c',c6, -,c7⟩, -⟩:=hat'
     have HE:=Lib.hid hfd
     have HC:=Lib.hid (HI.out sub (by simp only[Fs.nodes] at hdn;omega) wr op' v' bd' nm' a' c' c2 c5 c7)
     have HA:=Lib.hid (show FArgs wr a' sub from c7)
     have hb2:b1<wr.heap.size:=Nat.lt_of_lt_of_le hb1 HW2.out.size
     clear hat hfd c7 hdl hdn
     go_wp2_with fail
     refine HC.out.mono ?_
     rintro e w3 ⟨q',rfl,hB3⟩
     have x0:=(hB3.cell (p:=⟨b1,_,none⟩) hb2).trans c0
     have x1:=(hB3.cell (p:=⟨b1,_,none⟩) hb2).trans c1
     have x3:=(hB3.cell (p:=⟨b1,_,none⟩) hb2).trans c3
     have x4:=(hB3.cell (p:=⟨b1,_,none⟩) hb2).trans c4
     have x6:=(hB3.cell (p:=⟨b1,_,none⟩) hb2).trans c6
     have HP:=Lib.hid (past171 (sub.nodes+1) sub (Nat.lt_succ_self _) w3 op' v' bd' nm' a' c' c2 c5 (HA.out.keep hB3))
     have HB3:Hid (Below (w.heap.size+1) w1 w3):=Lib.hid (HR.out.trans (hB3.mono (by have:=HR.out.size;have:=HZ.out;omega)))
     have y0:=(HB3.out.cell (p:=⟨w.heap.size,0,none⟩) (by show w.heap.size<w.heap.size+1;omega)).trans d0
     have y4:=(HB3.out.cell (p:=⟨w.heap.size,4,none⟩) (by show w.heap.size<w.heap.size+1;omega)).trans d4
     clear hB3 c0 c1 c2 c3 c4 c6 e0 e4
     cases q' with
     |false=>
      go_wp2_with fail
      go_ret
      exact⟨_,rfl,HB.out.trans (HB3.out.mono (by omega))⟩
     |true=>
      by_cases h15:15≤op
      ·have hd1:decide ((15:Int)≤op)=true:=by simpa using h15
       by_cases h19:op≤19
       ·have hd2:decide (op≤(19:Int))=true:=by simpa using h19
        go_wp2_with fail
        refine HP.out.mono ?_
        rintro e w4 ⟨q4,rfl,hB4⟩
        have HB4:Hid (Below (w.heap.size+1) w1 w4):=Lib.hid (HB3.out.trans (hB4.mono (by have:=HB3.out.size;have:=HZ.out;omega)))
        clear hB4 x0 x1 x3 x4 x6 y0 y4
        cases q4 with
        |false=>
         go_wp2_with fail
         go_ret
         exact⟨_,rfl,HB.out.trans (HB4.out.mono (by omega))⟩
        |true=>
         go_wp2_with fail
         go_roundw
         case rel=>exact⟨k+1,by omega,by go_num,HB4.out⟩
         case measure=>simp[intOf];omega
       ·have hd2:decide (op≤(19:Int))=false:=by simpa using h19
        go_wp2_with fail
        go_roundw
        case rel=>exact⟨k+1,by omega,by go_num,HB3.out⟩
        case measure=>simp[intOf];omega
      ·have hd1:decide ((15:Int)≤op)=false:=by simpa using h15
       go_wp2_with fail
       go_roundw
       case rel=>exact⟨k+1,by omega,by go_num,HB3.out⟩
       case measure=>simp[intOf];omega
   ·have hd:decide (k<f.len)=false:=by simpa using hlt
    have HF:Hid (f.drop k=.nil):=Lib.hid (Fs.drop_end (by omega))
    go_wp2_with fail
    go_ret
    exact⟨_,rfl,HB.out.trans (HR.out.mono (by omega))⟩
def SomeI (w:World) (m:Nat) (e:Ending) (w':World):Prop:=∃n:Int,e=.returned (.int .i64 n)∧1≤n∧n≤m∧Below w.heap.size w w'
set_option maxRecDepth 100000 in
set_option maxHeartbeats 8000000 in
theorem depth120:∀(N:Nat) (f:Fs),f.nodes<N→∀(w:World) (op v bd:Int) (nm:ByteArray) (a:Option Addr) (c:Nat),nm.size≤9223372036854775807→f.len≤9223372036854775807→FArgs w a f→f.nodes≤400→
  Calls Tryz.prog 120 #[.agg #[.int .i64 op,.string nm,.int .i64 v,.int .i64 bd,.slice a f.len c]] w (SomeI w (f.nodes+1)):=by
 intro N
 induction N with
 |zero=>
  intro f hf
  omega
 |succ N ih=>
  intro f hf w op v bd nm a c hn hl hv h400
  have HV:=Lib.hid hv
  have HN:=Lib.hid hn
  have HI:=Lib.hid ih
  clear hv ih hn
  have d0:=cell_new w #[.int .i64 op,.string nm,.int .i64 v,.int .i64 bd,.slice a f.len c] 48 0
  have d1:=cell_new w #[.int .i64 op,.string nm,.int .i64 v,.int .i64 bd,.slice a f.len c] 48 1
  have d2:=cell_new w #[.int .i64 op,.string nm,.int .i64 v,.int .i64 bd,.slice a f.len c] 48 2
  have d3:=cell_new w #[.int .i64 op,.string nm,.int .i64 v,.int .i64 bd,.slice a f.len c] 48 3
  have d4:=cell_new w #[.int .i64 op,.string nm,.int .i64 v,.int .i64 bd,.slice a f.len c] 48 4
  simp only[List.getElem?_toArray,List.getElem?_cons_succ,List.getElem?_cons_zero] at d0 d1 d2 d3 d4
  have HB:Hid (Below w.heap.size w (w.alloc (.cells #[.int .i64 op,.string nm,.int .i64 v,.int .i64 bd,.slice a f.len c] 48))):=Lib.hid ((Below.refl _ _).alloc (Nat.le_refl _) _)
  have HZ:Hid ((w.alloc (.cells #[.int .i64 op,.string nm,.int .i64 v,.int .i64 bd,.slice a f.len c] 48)).heap.size=w.heap.size+1):=Lib.hid (by simp)
  go_enter Tryz.func120,Tryz.ntmps120
  go_upto_region 1 with fail
  generalize w.alloc (.cells #[.int .i64 op,.string nm,.int .i64 v,.int .i64 bd,.slice a f.len c] 48)=w1 at*
  go_upto_region 3 with fail
  go_loopw [3,4] (fun x i wr=>∃(k:Nat) (n:Int),k≤f.len∧i=.int .i64 k∧x=.int .i64 n∧0≤n∧n≤f.nodes∧Below (w.heap.size+1) w1 wr) (fun _ i _=>f.len - (intOf i).toNat)
  case atStart=>exact⟨0,0,Nat.zero_le _,rfl,rfl,by omega,by omega,Below.refl _ _⟩
  case round=>
   obtain⟨k,n,hk,rfl,rfl,hn0,hn1,hB⟩:=hrel
   have e0:=(hB.cell (p:=⟨w.heap.size,0,none⟩) (by show w.heap.size<w.heap.size+1;omega)).trans d0
   have e4:=(hB.cell (p:=⟨w.heap.size,4,none⟩) (by show w.heap.size<w.heap.size+1;omega)).trans d4
   have HR:=Lib.hid hB
   clear hB
   by_cases hlt:k<f.len
   ·have hd:decide (k<f.len)=true:=by simpa using hlt
    have HW2:Hid (Below w.heap.size w wr):=Lib.hid (HB.out.trans (HR.out.mono (by omega)))
    obtain⟨b1,o1,ha1,hb1,hat⟩:=HV.out (by omega)
    cases ha1
    have hat':=FAt.keep HW2.out hb1 (FAt.drop k hat)
    have hdl:=Fs.drop_len f k
    cases hfd:f.drop k with
    |nil=>rw[hfd] at hdl;simp[Fs.len] at hdl;omega
    |cons op' nm' v' bd' sub rest=>
     rw[hfd] at hat'
     have hdn:=Fs.drop_nodes f k
     rw[hfd] at hdn
     obtain⟨c0,c1,c2,c3,c4,c5,⟨a',c',c6, -,c7⟩, -⟩:=hat'
     have HE:=Lib.hid hfd
     have HC:=Lib.hid (HI.out sub (by simp only[Fs.nodes] at hdn;omega) wr op' v' bd' nm' a' c' c2 c5 c7 (by simp only[Fs.nodes] at hdn;omega))
     have HD:Hid (sub.nodes+1≤f.nodes):=Lib.hid (by simp only[Fs.nodes] at hdn;omega)
     clear hat hfd c7 hdl hdn
     go_wp2_with fail
     refine HC.out.mono ?_
     rintro e w3 ⟨n',rfl,p1,p2,hB3⟩
     have HB3:Hid (Below (w.heap.size+1) w1 w3):=Lib.hid (HR.out.trans (hB3.mono (by have:=HR.out.size;have:=HZ.out;omega)))
     clear hB3 c0 c1 c2 c3 c4 c6
     go_wp2_with fail
     go_roundw
     case rel=>
      have:=HD.out
      exact⟨k+1,max n n',by omega,by go_num,by first|rfl|(simp only[Int.max_def];split<;>rfl),by omega,by omega,HB3.out⟩
     case measure=>simp[intOf];omega
   ·have hd:decide (k<f.len)=false:=by simpa using hlt
    have HF:Hid (f.drop k=.nil):=Lib.hid (Fs.drop_end (by omega))
    go_wp2_with fail
    go_ret
    exact⟨_,rfl,by omega,by omega,HB.out.trans (HR.out.mono (by omega))⟩
set_option maxRecDepth 100000 in
set_option maxHeartbeats 8000000 in
theorem loose60 (f:Fs) (w:World) (op v bd:Int) (nm:ByteArray) (a:Option Addr) (c:Nat) (hn:nm.size≤9223372036854775807) (hl:f.len≤9223372036854775807) (hv:FArgs w a f):
  Calls Tryz.prog 60 #[.agg #[.int .i64 op,.string nm,.int .i64 v,.int .i64 bd,.slice a f.len c]] w (SomeB w):=by
 have HV:=Lib.hid hv
 have HN:=Lib.hid hn
 clear hv hn
 have d0:=cell_new w #[.int .i64 op,.string nm,.int .i64 v,.int .i64 bd,.slice a f.len c] 48 0
 have d1:=cell_new w #[.int .i64 op,.string nm,.int .i64 v,.int .i64 bd,.slice a f.len c] 48 1
 have d2:=cell_new w #[.int .i64 op,.string nm,.int .i64 v,.int .i64 bd,.slice a f.len c] 48 2
 have d3:=cell_new w #[.int .i64 op,.string nm,.int .i64 v,.int .i64 bd,.slice a f.len c] 48 3
 have d4:=cell_new w #[.int .i64 op,.string nm,.int .i64 v,.int .i64 bd,.slice a f.len c] 48 4
 simp only[List.getElem?_toArray,List.getElem?_cons_succ,List.getElem?_cons_zero] at d0 d1 d2 d3 d4
 have HB:Hid (Below w.heap.size w (w.alloc (.cells #[.int .i64 op,.string nm,.int .i64 v,.int .i64 bd,.slice a f.len c] 48))):=Lib.hid ((Below.refl _ _).alloc (Nat.le_refl _) _)
 have HZ:Hid ((w.alloc (.cells #[.int .i64 op,.string nm,.int .i64 v,.int .i64 bd,.slice a f.len c] 48)).heap.size=w.heap.size+1):=Lib.hid (by simp)
 go_enter Tryz.func60,Tryz.ntmps60
 go_upto_region 1 with fail
 generalize w.alloc (.cells #[.int .i64 op,.string nm,.int .i64 v,.int .i64 bd,.slice a f.len c] 48)=w1 at*
 go_wp2_with fail
 refine(small19 f w1 op v bd nm a c 400 hl (HV.out.keep HB.out) (by omega) (by omega)).mono ?_
 rintro e w2 ⟨q2,rfl,hq2,hB2⟩
 have HB2:Hid (Below (w.heap.size+1) w1 w2):=Lib.hid ((hB2.mono (by have:=HZ.out;omega)))
 have z20:=(HB2.out.cell (p:=⟨w.heap.size,0,none⟩) (by show w.heap.size<w.heap.size+1;omega)).trans d0
 have z21:=(HB2.out.cell (p:=⟨w.heap.size,1,none⟩) (by show w.heap.size<w.heap.size+1;omega)).trans d1
 have z22:=(HB2.out.cell (p:=⟨w.heap.size,2,none⟩) (by show w.heap.size<w.heap.size+1;omega)).trans d2
 have z23:=(HB2.out.cell (p:=⟨w.heap.size,3,none⟩) (by show w.heap.size<w.heap.size+1;omega)).trans d3
 have z24:=(HB2.out.cell (p:=⟨w.heap.size,4,none⟩) (by show w.heap.size<w.heap.size+1;omega)).trans d4
 clear hB2
 have HQ2:=Lib.hid hq2
 clear hq2
 cases q2 with
 |false=>
  go_wp2_with fail
  go_ret
  exact⟨_,rfl,HB.out.trans (HB2.out.mono (by omega))⟩
 |true=>
  have HNO:Hid (f.nodes≤400):=Lib.hid (by have:=HQ2.out (by simp);omega)
  go_wp2_with fail
  refine(depth120 (f.nodes+1) f (Nat.lt_succ_self _) w2 op v bd nm a c HN.out hl (HV.out.keep (HB.out.trans (HB2.out.mono (by omega)))) HNO.out).mono ?_
  rintro e w3 ⟨n3,rfl,m1,m2,hB3⟩
  have HB3:Hid (Below (w.heap.size+1) w1 w3):=Lib.hid (HB2.out.trans (hB3.mono (by have:=HZ.out;have:=HB2.out.size;omega)))
  have z30:=(HB3.out.cell (p:=⟨w.heap.size,0,none⟩) (by show w.heap.size<w.heap.size+1;omega)).trans d0
  have z31:=(HB3.out.cell (p:=⟨w.heap.size,1,none⟩) (by show w.heap.size<w.heap.size+1;omega)).trans d1
  have z32:=(HB3.out.cell (p:=⟨w.heap.size,2,none⟩) (by show w.heap.size<w.heap.size+1;omega)).trans d2
  have z33:=(HB3.out.cell (p:=⟨w.heap.size,3,none⟩) (by show w.heap.size<w.heap.size+1;omega)).trans d3
  have z34:=(HB3.out.cell (p:=⟨w.heap.size,4,none⟩) (by show w.heap.size<w.heap.size+1;omega)).trans d4
  clear hB3
  by_cases h60:n3≤60
  ·have hd1:decide (n3≤(60:Int))=true:=by simpa using h60
   go_wp2_with fail
   refine(nodes121 (f.nodes+1) f (Nat.lt_succ_self _) w3 op v bd nm a c HN.out hl (HV.out.keep (HB.out.trans (HB3.out.mono (by omega))))).mono ?_
   rintro e w4 ⟨q4,rfl,hq4,hB4⟩
   have HB4:Hid (Below (w.heap.size+1) w1 w4):=Lib.hid (HB3.out.trans (hB4.mono (by have:=HZ.out;have:=HB3.out.size;omega)))
   have z40:=(HB4.out.cell (p:=⟨w.heap.size,0,none⟩) (by show w.heap.size<w.heap.size+1;omega)).trans d0
   have z41:=(HB4.out.cell (p:=⟨w.heap.size,1,none⟩) (by show w.heap.size<w.heap.size+1;omega)).trans d1
   have z42:=(HB4.out.cell (p:=⟨w.heap.size,2,none⟩) (by show w.heap.size<w.heap.size+1;omega)).trans d2
   have z43:=(HB4.out.cell (p:=⟨w.heap.size,3,none⟩) (by show w.heap.size<w.heap.size+1;omega)).trans d3
   have z44:=(HB4.out.cell (p:=⟨w.heap.size,4,none⟩) (by show w.heap.size<w.heap.size+1;omega)).trans d4
   clear hB4
   have HQ4:=Lib.hid hq4
   clear hq4
   cases q4 with
   |false=>
    go_wp2_with fail
    go_ret
    exact⟨_,rfl,HB.out.trans (HB4.out.mono (by omega))⟩
   |true=>
    have HQ5:=Lib.hid (HQ4.out (by simp))
    go_wp2_with fail
    refine(core122 (f.nodes+1) f (Nat.lt_succ_self _) w4 op v bd nm a c HN.out hl (HV.out.keep (HB.out.trans (HB4.out.mono (by omega)))) HQ5.out.1 HQ5.out.2).mono ?_
    rintro e w5 ⟨q5,rfl,hB5⟩
    have HB5:Hid (Below (w.heap.size+1) w1 w5):=Lib.hid (HB4.out.trans (hB5.mono (by have:=HZ.out;have:=HB4.out.size;omega)))
    have z50:=(HB5.out.cell (p:=⟨w.heap.size,0,none⟩) (by show w.heap.size<w.heap.size+1;omega)).trans d0
    have z51:=(HB5.out.cell (p:=⟨w.heap.size,1,none⟩) (by show w.heap.size<w.heap.size+1;omega)).trans d1
    have z52:=(HB5.out.cell (p:=⟨w.heap.size,2,none⟩) (by show w.heap.size<w.heap.size+1;omega)).trans d2
    have z53:=(HB5.out.cell (p:=⟨w.heap.size,3,none⟩) (by show w.heap.size<w.heap.size+1;omega)).trans d3
    have z54:=(HB5.out.cell (p:=⟨w.heap.size,4,none⟩) (by show w.heap.size<w.heap.size+1;omega)).trans d4
    clear hB5
    cases q5 with
    |false=>
     go_wp2_with fail
     go_ret
     exact⟨_,rfl,HB.out.trans (HB5.out.mono (by omega))⟩
    |true=>
     go_wp2_with fail
     refine(layered123 (f.nodes+1) f (Nat.lt_succ_self _) w5 op v bd nm a c HN.out hl (HV.out.keep (HB.out.trans (HB5.out.mono (by omega))))).mono ?_
     rintro e w6 ⟨q6,rfl,hB6⟩
     have HB6:Hid (Below (w.heap.size+1) w1 w6):=Lib.hid (HB5.out.trans (hB6.mono (by have:=HZ.out;have:=HB5.out.size;omega)))
     have z60:=(HB6.out.cell (p:=⟨w.heap.size,0,none⟩) (by show w.heap.size<w.heap.size+1;omega)).trans d0
     have z61:=(HB6.out.cell (p:=⟨w.heap.size,1,none⟩) (by show w.heap.size<w.heap.size+1;omega)).trans d1
     have z62:=(HB6.out.cell (p:=⟨w.heap.size,2,none⟩) (by show w.heap.size<w.heap.size+1;omega)).trans d2
     have z63:=(HB6.out.cell (p:=⟨w.heap.size,3,none⟩) (by show w.heap.size<w.heap.size+1;omega)).trans d3
     have z64:=(HB6.out.cell (p:=⟨w.heap.size,4,none⟩) (by show w.heap.size<w.heap.size+1;omega)).trans d4
     clear hB6
     go_wp2_with fail
     go_ret
     exact⟨_,rfl,HB.out.trans (HB6.out.mono (by omega))⟩
  ·have hd1:decide (n3≤(60:Int))=false:=by simpa using h60
   go_wp2_with fail
   go_ret
   exact⟨_,rfl,HB.out.trans (HB3.out.mono (by omega))⟩
set_option maxRecDepth 100000 in
set_option maxHeartbeats 8000000 in
theorem fits61 {l:List Sg} {sa:Option Addr} {sc:Nat}:∀(N:Nat) (f:Fs),f.nodes<N→∀(w:World) (op v bd:Int) (nm:ByteArray) (a:Option Addr) (c:Nat),nm.size≤9223372036854775807→f.len≤9223372036854775807→FArgs w a f→SgV w (.slice sa l.length sc) l→
  Calls Tryz.prog 61 #[.slice sa l.length sc,.agg #[.int .i64 op,.string nm,.int .i64 v,.int .i64 bd,.slice a f.len c]] w (SomeB w):=by
 intro N
 induction N with
 |zero=>
  intro f hf
  omega
 |succ N ih=>
  intro f hf w op v bd nm a c hn hl hv hs
  have HV:=Lib.hid hv
  have HN:=Lib.hid hn
  have HI:=Lib.hid ih
  have HS:=Lib.hid hs
  clear hv ih hn hs
  have d0:=cell_new w #[.int .i64 op,.string nm,.int .i64 v,.int .i64 bd,.slice a f.len c] 48 0
  have d1:=cell_new w #[.int .i64 op,.string nm,.int .i64 v,.int .i64 bd,.slice a f.len c] 48 1
  have d2:=cell_new w #[.int .i64 op,.string nm,.int .i64 v,.int .i64 bd,.slice a f.len c] 48 2
  have d3:=cell_new w #[.int .i64 op,.string nm,.int .i64 v,.int .i64 bd,.slice a f.len c] 48 3
  have d4:=cell_new w #[.int .i64 op,.string nm,.int .i64 v,.int .i64 bd,.slice a f.len c] 48 4
  simp only[List.getElem?_toArray,List.getElem?_cons_succ,List.getElem?_cons_zero] at d0 d1 d2 d3 d4
  have HB:Hid (Below w.heap.size w (w.alloc (.cells #[.int .i64 op,.string nm,.int .i64 v,.int .i64 bd,.slice a f.len c] 48))):=Lib.hid ((Below.refl _ _).alloc (Nat.le_refl _) _)
  have HZ:Hid ((w.alloc (.cells #[.int .i64 op,.string nm,.int .i64 v,.int .i64 bd,.slice a f.len c] 48)).heap.size=w.heap.size+1):=Lib.hid (by simp)
  go_enter Tryz.func61,Tryz.ntmps61
  go_upto_region 1 with fail
  generalize w.alloc (.cells #[.int .i64 op,.string nm,.int .i64 v,.int .i64 bd,.slice a f.len c] 48)=w1 at*
  by_cases h3:op=3
  ·have hd1:decide (op=(3:Int))=true:=by simpa using h3
   have hd2:(op==(3:Int))=true:=by simpa using h3
   clear h3
   go_wp2_with fail
   refine(find119 (HS.out.keep HB.out)).mono ?_
   rintro e w2 ⟨rfl,hB2⟩
   have HB2:Hid (Below (w.heap.size+1) w1 w2):=Lib.hid (hB2.mono (by have:=HZ.out;omega))
   have y2:=(HB2.out.cell (p:=⟨w.heap.size,2,none⟩) (by show w.heap.size<w.heap.size+1;omega)).trans d2
   have HW2:Hid (Below w.heap.size w w2):=Lib.hid (HB.out.trans (HB2.out.mono (by omega)))
   clear hB2
   rcases findI_cases l nm with he|⟨k,hk,he, -⟩
   ·rw[he]
    have hd3:decide ((0:Int)≤(-1:Int))=false:=by decide
    go_wp2_with fail
    go_quiet (fail)
    go_wp2_with fail
    go_ret
    exact⟨_,rfl,below_drawn HW2.out _⟩
   ·rw[he]
    have HC:=Lib.hid HS.out
    obtain⟨a2,c2,e2, -,hat⟩:=HC.out
    simp only[Value.slice.injEq] at e2
    obtain⟨rfl, -,rfl⟩:=e2
    obtain⟨b1,o1,he1,hb1,hcs⟩:=hat (fun e=>by rw[e] at hk;simp at hk)
    cases he1
    obtain⟨-, -,x2, -⟩:=hcs k hk
    have x2:=(HW2.out.cell (p:=⟨b1,o1+k*3+2,none⟩) hb1).trans x2
    have hd3:decide ((0:Int)≤(k:Int))=true:=by simp
    have hd4:decide ((k:Int)<(l.length:Int))=true:=by simpa using hk
    generalize l[k].size=z at*
    clear he hcs hat HC
    by_cases hv0:0≤v
    ·have hd5:decide ((0:Int)≤v)=true:=by simpa using hv0
     by_cases hvz:v<z
     ·have hd6:decide (v<z)=true:=by simpa using hvz
      go_wp2_with fail
      go_quiet (fail)
      go_wp2_with fail
      go_ret
      exact⟨_,rfl,below_drawn HW2.out _⟩
     ·have hd6:decide (v<z)=false:=by simpa using hvz
      go_wp2_with fail
      go_quiet (fail)
      go_wp2_with fail
      go_ret
      exact⟨_,rfl,below_drawn HW2.out _⟩
    ·have hd5:decide ((0:Int)≤v)=false:=by simpa using hv0
     go_wp2_with fail
     go_quiet (fail)
     go_wp2_with fail
     go_ret
     exact⟨_,rfl,below_drawn HW2.out _⟩
  ·have hd1:decide (op=(3:Int))=false:=by simpa using h3
   have hd2:(op==(3:Int))=false:=by simpa using h3
   clear h3
   go_upto_region 5 with fail
   go_loopw [6] (fun i wr=>∃k:Nat,k≤f.len∧i=.int .i64 k∧Below (w.heap.size+1) w1 wr) (fun i _=>f.len - (intOf i).toNat)
   case atStart=>exact⟨0,Nat.zero_le _,rfl,Below.refl _ _⟩
   case round=>
    obtain⟨k,hk,rfl,hB⟩:=hrel
    have e0:=(hB.cell (p:=⟨w.heap.size,0,none⟩) (by show w.heap.size<w.heap.size+1;omega)).trans d0
    have e4:=(hB.cell (p:=⟨w.heap.size,4,none⟩) (by show w.heap.size<w.heap.size+1;omega)).trans d4
    have HR:=Lib.hid hB
    clear hB
    by_cases hlt:k<f.len
    ·have hd:decide (k<f.len)=true:=by simpa using hlt
     have HW2:Hid (Below w.heap.size w wr):=Lib.hid (HB.out.trans (HR.out.mono (by omega)))
     obtain⟨b1,o1,ha1,hb1,hat⟩:=HV.out (by omega)
     cases ha1
     have hat':=FAt.keep HW2.out hb1 (FAt.drop k hat)
     have hdl:=Fs.drop_len f k
     cases hfd:f.drop k with
     |nil=>rw[hfd] at hdl;simp[Fs.len] at hdl;omega
     |cons op' nm' v' bd' sub rest=>
      rw[hfd] at hat'
      have hdn:=Fs.drop_nodes f k
      rw[hfd] at hdn
      obtain⟨c0,c1,c2,c3,c4,c5,⟨a',c',c6, -,c7⟩, -⟩:=hat'
      have HE:=Lib.hid hfd
      have HC:=Lib.hid (HI.out sub (by simp only[Fs.nodes] at hdn;omega) wr op' v' bd' nm' a' c' c2 c5 c7 (HS.out.keep HW2.out))
      clear hat hfd c7 hdl hdn
      go_wp2_with fail
      refine HC.out.mono ?_
      rintro e w3 ⟨q',rfl,hB3⟩
      have HB3:Hid (Below (w.heap.size+1) w1 w3):=Lib.hid (HR.out.trans (hB3.mono (by have:=HR.out.size;have:=HZ.out;omega)))
      clear hB3 c0 c1 c2 c3 c4 c6
      cases q' with
      |false=>
       go_wp2_with fail
       go_ret
       exact⟨_,rfl,HB.out.trans (HB3.out.mono (by omega))⟩
      |true=>
       go_wp2_with fail
       go_roundw
       case rel=>exact⟨k+1,by omega,by go_num,HB3.out⟩
       case measure=>simp[intOf];omega
    ·have hd:decide (k<f.len)=false:=by simpa using hlt
     have HF:Hid (f.drop k=.nil):=Lib.hid (Fs.drop_end (by omega))
     go_wp2_with fail
     go_ret
     exact⟨_,rfl,HB.out.trans (HR.out.mono (by omega))⟩
end
section
open Go.RowKit
set_option maxRecDepth 100000 in
set_option maxHeartbeats 8000000 in
theorem valid59 {w:World} {v:Value} {l:List Sg} (hv:SgV w v l):Calls Tryz.prog 59 #[v] w (SomeB w):=by
 have HS:=Lib.hid hv
 obtain⟨a,c,rfl,hl,hv⟩:=hv
 have HV:=Lib.hid hv
 clear hv
 by_cases h1:(l.length:Int)<1
 ·have hd1:decide ((l.length:Int)<1)=true:=by simpa using h1
  go_enter Tryz.func59,Tryz.ntmps59
  go_wp2_with fail
  go_ret
  exact⟨_,rfl,Below.refl _ _⟩
 ·have hd1:decide ((l.length:Int)<1)=false:=by simpa using h1
  by_cases h2:(6:Int)<l.length
  ·have hd2:decide ((6:Int)<l.length)=true:=by simpa using h2
   go_enter Tryz.func59,Tryz.ntmps59
   go_wp2_with fail
   go_ret
   exact⟨_,rfl,Below.refl _ _⟩
  ·have hd2:decide ((6:Int)<l.length)=false:=by simpa using h2
   go_enter Tryz.func59,Tryz.ntmps59
   go_upto_region 5 with fail
   go_loopw [3,4] (fun p i wr=>∃(k:Nat) (P:Int),k≤l.length∧p=.int .i64 P∧i=.int .i64 k∧Hid (Below w.heap.size w wr)) (fun _ i _=>l.length - (intOf i).toNat)
   case atStart=>exact⟨0,1,Nat.zero_le _,rfl,rfl,Lib.hid (Below.refl _ _)⟩
   case round=>
    obtain⟨k,P,hk,rfl,rfl,HB⟩:=hrel
    by_cases hlt:(k:Int)<(l.length:Int)
    ·have hd:decide ((k:Int)<(l.length:Int))=true:=by simpa using hlt
     have hk':k<l.length:=by omega
     obtain⟨b1,o1,rfl,hb1,hc⟩:=HV.out (fun e=>by rw[e] at hk';simp at hk')
     obtain⟨c0, -,c2,cz⟩:=hc k hk'
     generalize l[k]=s at*
     clear hc
     have C0:=Lib.hid c0
     have C2:=Lib.hid c2
     have x0:=(HB.out.cell (p:=⟨b1,o1+k*3,none⟩) hb1).trans c0
     have HNC:=Lib.hid (name118 (w:=wr) cz)
     clear c0 c2 cz
     go_wp2_with fail
     refine HNC.out.mono ?_
     rintro e w2 ⟨q,rfl,hB2⟩
     have HB2:Hid (Below w.heap.size w w2):=Lib.hid (HB.out.trans (hB2.mono HB.out.size))
     have x2:=(HB2.out.cell (p:=⟨b1,o1+k*3,none⟩) hb1).trans C0.out
     clear hB2 x0
     cases q with
     |false=>
      go_wp2_with fail
      go_ret
      exact⟨_,rfl,HB2.out⟩
     |true=>
      have HFI:=Lib.hid (find119 (w:=w2) (nm:=s.name) (HS.out.keep HB2.out))
      go_wp2_with fail
      refine HFI.out.mono ?_
      rintro e w3 ⟨rfl,hB3⟩
      have HB3:Hid (Below w.heap.size w w3):=Lib.hid (HB2.out.trans (hB3.mono HB2.out.size))
      have x3:=(HB3.out.cell (p:=⟨b1,o1+k*3+2,none⟩) hb1).trans C2.out
      clear hB3 x2
      generalize findI l s.name=F at*
      by_cases he:F=(k:Int)
      ·have e1:decide (F=(k:Int))=true:=by simpa using he
       have e2:(F==(k:Int))=true:=by simpa using he
       have e3:(F !=(k:Int))=false:=by simpa using he
       clear he
       by_cases z1:s.size<2
       ·have hz1:decide (s.size<2)=true:=by simpa using z1
        go_wp2_with fail
        go_ret
        exact⟨_,rfl,HB3.out⟩
       ·have hz1:decide (s.size<2)=false:=by simpa using z1
        by_cases z2:4<s.size
        ·have hz2:decide (4<s.size)=true:=by simpa using z2
         go_wp2_with fail
         go_ret
         exact⟨_,rfl,HB3.out⟩
        ·have hz2:decide (4<s.size)=false:=by simpa using z2
         go_wp2_with fail
         go_roundw
         case rel=>exact⟨k+1,_,by omega,rfl,by go_num,HB3⟩
         case measure=>simp[intOf];omega
      ·have e1:decide (F=(k:Int))=false:=by simpa using he
       have e2:(F==(k:Int))=false:=by simpa using he
       have e3:(F !=(k:Int))=true:=by simpa using he
       clear he
       go_wp2_with fail
       go_ret
       exact⟨_,rfl,HB3.out⟩
    ·have hd:decide ((k:Int)<(l.length:Int))=false:=by simpa using hlt
     go_wp2_with fail
     go_ret
     exact⟨_,rfl,HB.out⟩
set_option maxRecDepth 100000 in
set_option maxHeartbeats 8000000 in
theorem right20 (f:Fs) (w:World) (op v bd:Int) (nm:ByteArray) (a:Option Addr) (c:Nat) (hn:nm.size≤9223372036854775807) (hl:f.len≤9223372036854775807) (hv:FArgs w a f) {sv:Value} {l:List Sg} (hs:SgV w sv l):
  Calls Tryz.prog 20 #[sv,.agg #[.int .i64 op,.string nm,.int .i64 v,.int .i64 bd,.slice a f.len c]] w (SomeB w):=by
 have HS:=Lib.hid hs
 obtain⟨sa,sc,rfl, -, -⟩:=hs
 have HV:=Lib.hid hv
 have HN:=Lib.hid hn
 clear hv hn
 have d0:=cell_new w #[.int .i64 op,.string nm,.int .i64 v,.int .i64 bd,.slice a f.len c] 48 0
 have d1:=cell_new w #[.int .i64 op,.string nm,.int .i64 v,.int .i64 bd,.slice a f.len c] 48 1
 have d2:=cell_new w #[.int .i64 op,.string nm,.int .i64 v,.int .i64 bd,.slice a f.len c] 48 2
 have d3:=cell_new w #[.int .i64 op,.string nm,.int .i64 v,.int .i64 bd,.slice a f.len c] 48 3
 have d4:=cell_new w #[.int .i64 op,.string nm,.int .i64 v,.int .i64 bd,.slice a f.len c] 48 4
 simp only[List.getElem?_toArray,List.getElem?_cons_succ,List.getElem?_cons_zero] at d0 d1 d2 d3 d4
 have HB:Hid (Below w.heap.size w (w.alloc (.cells #[.int .i64 op,.string nm,.int .i64 v,.int .i64 bd,.slice a f.len c] 48))):=Lib.hid ((Below.refl _ _).alloc (Nat.le_refl _) _)
 have HZ:Hid ((w.alloc (.cells #[.int .i64 op,.string nm,.int .i64 v,.int .i64 bd,.slice a f.len c] 48)).heap.size=w.heap.size+1):=Lib.hid (by simp)
 go_enter Tryz.func20,Tryz.ntmps20
 go_upto_region 1 with fail
 generalize w.alloc (.cells #[.int .i64 op,.string nm,.int .i64 v,.int .i64 bd,.slice a f.len c] 48)=w1 at*
 go_wp2_with fail
 refine(valid59 (HS.out.keep HB.out)).mono ?_
 rintro e w2 ⟨q2,rfl,hB2⟩
 have HB2:Hid (Below (w.heap.size+1) w1 w2):=Lib.hid (hB2.mono (by have:=HZ.out;omega))
 have z20:=(HB2.out.cell (p:=⟨w.heap.size,0,none⟩) (by show w.heap.size<w.heap.size+1;omega)).trans d0
 have z21:=(HB2.out.cell (p:=⟨w.heap.size,1,none⟩) (by show w.heap.size<w.heap.size+1;omega)).trans d1
 have z22:=(HB2.out.cell (p:=⟨w.heap.size,2,none⟩) (by show w.heap.size<w.heap.size+1;omega)).trans d2
 have z23:=(HB2.out.cell (p:=⟨w.heap.size,3,none⟩) (by show w.heap.size<w.heap.size+1;omega)).trans d3
 have z24:=(HB2.out.cell (p:=⟨w.heap.size,4,none⟩) (by show w.heap.size<w.heap.size+1;omega)).trans d4
 clear hB2
 cases q2 with
 |false=>
  go_wp2_with fail
  go_ret
  exact⟨_,rfl,HB.out.trans (HB2.out.mono (by omega))⟩
 |true=>
  go_wp2_with fail
  refine(loose60 f w2 op v bd nm a c HN.out hl (HV.out.keep (HB.out.trans (HB2.out.mono (by omega))))).mono ?_
  rintro e w3 ⟨q3,rfl,hB3⟩
  have HB3:Hid (Below (w.heap.size+1) w1 w3):=Lib.hid (HB2.out.trans (hB3.mono (by have:=HZ.out;have:=HB2.out.size;omega)))
  have z30:=(HB3.out.cell (p:=⟨w.heap.size,0,none⟩) (by show w.heap.size<w.heap.size+1;omega)).trans d0
  have z31:=(HB3.out.cell (p:=⟨w.heap.size,1,none⟩) (by show w.heap.size<w.heap.size+1;omega)).trans d1
  have z32:=(HB3.out.cell (p:=⟨w.heap.size,2,none⟩) (by show w.heap.size<w.heap.size+1;omega)).trans d2
  have z33:=(HB3.out.cell (p:=⟨w.heap.size,3,none⟩) (by show w.heap.size<w.heap.size+1;omega)).trans d3
  have z34:=(HB3.out.cell (p:=⟨w.heap.size,4,none⟩) (by show w.heap.size<w.heap.size+1;omega)).trans d4
  clear hB3
  cases q3 with
  |false=>
   go_wp2_with fail
   go_ret
   exact⟨_,rfl,HB.out.trans (HB3.out.mono (by omega))⟩
  |true=>
   go_wp2_with fail
   refine(fits61 (f.nodes+1) f (Nat.lt_succ_self _) w3 op v bd nm a c HN.out hl (HV.out.keep (HB.out.trans (HB3.out.mono (by omega)))) (HS.out.keep (HB.out.trans (HB3.out.mono (by omega))))).mono ?_
   rintro e w4 ⟨q4,rfl,hB4⟩
   have HB4:Hid (Below (w.heap.size+1) w1 w4):=Lib.hid (HB3.out.trans (hB4.mono (by have:=HZ.out;have:=HB3.out.size;omega)))
   clear hB4
   go_wp2_with fail
   go_ret
   exact⟨_,rfl,HB.out.trans (HB4.out.mono (by omega))⟩
end
end Go.Proofs.YtckdgniecdfedaaGreatDoor
